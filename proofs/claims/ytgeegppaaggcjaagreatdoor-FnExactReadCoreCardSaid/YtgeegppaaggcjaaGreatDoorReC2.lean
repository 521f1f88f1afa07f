/- The program's ReadCore returns what the reference's returns, for all arguments: the card of FnExactReadCore. No condition. -/
import Derived.Test.YtgeegppaaggcjaaGreatDoorReC1
import Derived.Shelf.Strconv.Atoi
import Derived.Shelf.Strconv.AtoiErr
import Derived.WalkSmall
import Derived.Test.YtgeegppaaggcjaaGreatDoorCards
import Derived.Test.YtgeegppaaggcjaaGreatDoorTie
import Derived.Deep.DeepHandedRow
import Derived.Lib.LaidTab
import Derived.Stop.LaidErr
section
namespace Go.Proofs.YtgeegppaaggcjaaGreatDoor
open Go Go.Proofs.YtgeegppaaggcjaaGreatDoor.Ab
set_option linter.unusedVariables false
def nilC : Core := ⟨0, 0, [], lstD [], []⟩
def tlS (s : ByteArray) : ByteArray := mkS (((tx s).drop 1).take (s.size - 1))
def vrB (d : Datum) : Bool := decide (d.kind = 1) && decide (2 ≤ (d.text.size : Int)) && decide (((d.text.data.toList.getD 0 0).toNat : Int) = 118)
def numD (d : Datum) : Int := if vrB d = true ∧ isNum (tlS d.text) = true ∧ 0 ≤ numV (tlS d.text) ∧ numV (tlS d.text) ≤ 99999 then numV (tlS d.text) else -1
theorem numD_le (d : Datum) : -1 ≤ numD d ∧ numD d ≤ 99999 := by unfold numD; split <;> omega
def idxL : List ByteArray → ByteArray → Int
  | [], _ => -1
  | x :: r, s => if x = s then 0 else if idxL r s < 0 then -1 else idxL r s + 1
theorem idx_at : ∀ {L : List ByteArray} {s : ByteArray} {k : Nat}, s ∉ L.take k → k < L.length → L.getD k .empty = s → idxL L s = k
  | [], s, k, _, h, _ => by simp at h
  | x :: r, s, 0, _, _, h => by simp at h; simp [idxL, h]
  | x :: r, s, k + 1, hn, h, he => by
    rw [List.take_succ_cons, List.mem_cons, not_or] at hn
    have ih := idx_at (L := r) hn.2 (by simpa using h) (by simpa using he)
    have h1 : ¬ x = s := fun e => hn.1 e.symm
    simp only [idxL, if_neg h1, ih]
    rw [if_neg (by omega)]; omega
theorem idx_no : ∀ {L : List ByteArray} {s : ByteArray}, s ∉ L → idxL L s = -1
  | [], _, _ => rfl
  | x :: r, s, h => by
    rw [List.mem_cons, not_or] at h
    have h1 : ¬ x = s := fun e => h.1 e.symm
    simp only [idxL, if_neg h1, idx_no h.2]; rfl
def formK (d : Datum) : Int :=
  if d.kind = 1 then
    (if tx d.text = [113, 117, 111, 116, 101] then 1 else if tx d.text = [115, 101, 116, 33] then 4 else if tx d.text = [108, 97, 109, 98, 100, 97] then 5 else if tx d.text = [105, 102] then 7 else if tx d.text = [98, 101, 103, 105, 110] then 8 else if tx d.text = [108, 111, 99, 97, 108] then 9
     else if tx d.text = [114, 101, 115, 101, 116] then 10 else if tx d.text = [115, 104, 105, 102, 116] then 11 else 6) else 6
def headK (k : Int) : Bool := decide (k = 4 ∨ k = 5 ∨ k = 9 ∨ k = 11)
def atK (k : Int) : Nat := if k = 6 then 0 else if headK k then 2 else 1
def reaA (d : Datum) : Core := if 0 ≤ numD d then ⟨2, numD d, [], lstD [], []⟩ else if 0 ≤ idxL primNames d.text ∧ d.kind = 1 then ⟨3, idxL primNames d.text, [], lstD [], []⟩ else nilC
def parK (k : Int) (l : List Datum) : List Int := if k = 11 then [numD (l.getD 1 default)] else if k = 5 ∨ k = 9 then (l.getD 1 default).items.map numD else []
def nbrK (k : Int) (l : List Datum) : Int := if k = 4 then numD (l.getD 1 default) else 0
def reaN (k : Int) (l : List Datum) (R : List Core) : Core :=
  if k = 1 then (if (l.length : Int) = 2 then ⟨1, 0, [], l.getD 1 default, []⟩ else nilC) else if headK k = true ∧ (l.length : Int) < 2 then nilC else ⟨k, nbrK k l, parK k l, lstD [], R.drop (atK k)⟩
mutual
def reaC : Datum → Core
  | ⟨k, n, t, l⟩ => if k ≠ 0 then reaA ⟨k, n, t, l⟩ else if (l.length : Int) = 0 then nilC else reaN (formK (l.getD 0 default)) l (reaCs l)
def reaCs : List Datum → List Core
  | [] => []
  | x :: r => reaC x :: reaCs r
end
theorem reaCs_eq : ∀ l, reaCs l = l.map reaC
  | [] => by simp [reaCs]
  | x :: r => by rw [reaCs, reaCs_eq r]; rfl
theorem reaC_eq (d : Datum) : reaC d = if d.kind ≠ 0 then reaA d else if (d.items.length : Int) = 0 then nilC else reaN (formK (d.items.getD 0 default)) d.items (d.items.map reaC) := by
  cases d; simp only [reaC, reaCs_eq]
def hedB (k : Int) (l : List Datum) : Bool :=
  if k = 1 then decide ((l.length : Int) = 2) else if headK k then decide (1 < (l.length : Int)) && (if k = 5 ∨ k = 9 then decide ((l.getD 1 default).kind = 0) && (l.getD 1 default).items.all (fun x => decide (0 ≤ numD x)) else decide (0 ≤ numD (l.getD 1 default))) else true
mutual
def rdB : Datum → Int → Bool × Int
  | ⟨k, n, t, l⟩, q => if q - 1 < 0 then (false, q - 1) else if k = 1 then (decide (0 ≤ numD ⟨k, n, t, l⟩ ∨ 0 ≤ idxL primNames t), q - 1) else if k ≠ 0 ∨ (l.length : Int) = 0 then (false, q - 1)
      else if hedB (formK (l.getD 0 default)) l = false then (false, q - 1) else if formK (l.getD 0 default) = 1 then (true, q - 1) else rdBs (atK (formK (l.getD 0 default))) l (q - 1)
def rdBs : Nat → List Datum → Int → Bool × Int
  | _, [], m => (true, m)
  | s + 1, _ :: r, m => rdBs s r m
  | 0, x :: r, m => if (rdB x m).1 then rdBs 0 r (rdB x m).2 else (false, (rdB x m).2)
end
theorem rdBs_eq : ∀ (s : Nat) (l : List Datum) (m : Int), rdBs s l m = scan rdB (l.drop s) m
  | s, [], m => by simp [rdBs, scan]
  | s + 1, _ :: r, m => by rw [rdBs, rdBs_eq s r m]; rfl
  | 0, x :: r, m => by rw [rdBs, rdBs_eq 0 r _]; rfl
theorem rdB_eq (d : Datum) (q : Int) : rdB d q = if q - 1 < 0 then (false, q - 1) else if d.kind = 1 then (decide (0 ≤ numD d ∨ 0 ≤ idxL primNames d.text), q - 1) else if d.kind ≠ 0 ∨ (d.items.length : Int) = 0 then (false, q - 1)
      else if hedB (formK (d.items.getD 0 default)) d.items = false then (false, q - 1) else if formK (d.items.getD 0 default) = 1 then (true, q - 1) else scan rdB (d.items.drop (atK (formK (d.items.getD 0 default)))) (q - 1) := by
  cases d; simp only [rdB, rdBs_eq]
mutual
def rok : Datum → Bool
  | ⟨k, n, t, l⟩ => if k = 1 then decide (0 ≤ numD ⟨k, n, t, l⟩ ∨ 0 ≤ idxL primNames t) else if k ≠ 0 ∨ (l.length : Int) = 0 then false
      else hedB (formK (l.getD 0 default)) l && (decide (formK (l.getD 0 default) = 1) || roks (atK (formK (l.getD 0 default))) l)
def roks : Nat → List Datum → Bool
  | _, [] => true
  | s + 1, _ :: r => roks s r
  | 0, x :: r => rok x && roks 0 r
end
theorem roks_eq : ∀ (s : Nat) (l : List Datum), roks s l = (l.drop s).all rok
  | s, [] => by simp [roks]
  | s + 1, _ :: r => by rw [roks, roks_eq s r]; rfl
  | 0, x :: r => by rw [roks, roks_eq 0 r]; rfl
theorem rok_eq (d : Datum) : rok d = if d.kind = 1 then decide (0 ≤ numD d ∨ 0 ≤ idxL primNames d.text) else if d.kind ≠ 0 ∨ (d.items.length : Int) = 0 then false
      else hedB (formK (d.items.getD 0 default)) d.items && (decide (formK (d.items.getD 0 default) = 1) || (d.items.drop (atK (formK (d.items.getD 0 default)))).all rok) := by
  cases d; simp only [rok, roks_eq]
theorem scan_dn {α : Type} (f : α → Int → Bool × Int) (w : α → Nat) (P : α → Bool) : ∀ (L : List α), (∀ x ∈ L, ∀ m, 0 ≤ m → ((f x m).1 = true ↔ ((w x : Int) ≤ m ∧ P x = true)) ∧ ((f x m).1 = true → (f x m).2 = m - w x)) →
    ∀ m, 0 ≤ m → ((scan f L m).1 = true ↔ ((sumBy w L : Int) ≤ m ∧ L.all P = true)) ∧ ((scan f L m).1 = true → (scan f L m).2 = m - sumBy w L)
  | [], _, m, hm => by simp [scan, sumBy, hm]
  | x :: r, hL, m, hm => by
    have h1 := hL x List.mem_cons_self m hm
    simp only [scan, sumBy, List.all_cons, Bool.and_eq_true]
    cases e : (f x m).1 with
    | true =>
      have h2 := h1.1.1 e
      have h3 := h1.2 e
      have h4 := scan_dn f w P r (fun y hy => hL y (List.mem_cons_of_mem _ hy)) (m - w x) (by omega)
      simp only [if_true]
      rw [h3]
      constructor
      · rw [h4.1]; constructor
        · rintro ⟨a, b⟩; exact ⟨by omega, h2.2, b⟩
        · rintro ⟨a, _, b⟩; exact ⟨by omega, b⟩
      · intro ht; rw [h4.2 ht]; omega
    | false =>
      simp only [Bool.false_eq_true, if_false]
      refine ⟨⟨fun h => h.elim, ?_⟩, fun h => h.elim⟩
      rintro ⟨a, b, _⟩
      rw [e] at h1
      exact absurd (h1.1.2 ⟨by omega, b⟩) (by simp)
theorem nilC_size : sizeC nilC = 1 := by decide
theorem reaA_size (d : Datum) : sizeC (reaA d) = 1 := by unfold reaA; split; rw [sizeC_eq]; rfl; split; rw [sizeC_eq]; rfl; exact nilC_size
theorem sum_map {α β : Type} (w : β → Nat) (f : α → β) : ∀ L : List α, sumBy w (L.map f) = sumBy (fun x => w (f x)) L
  | [] => rfl
  | x :: r => by simp only [List.map_cons, sumBy, sum_map w f r]
theorem rd_ok : ∀ (d : Datum) (q : Int), 0 ≤ q → ((rdB d q).1 = true ↔ ((sizeC (reaC d) : Int) ≤ q ∧ rok d = true)) ∧ ((rdB d q).1 = true → (rdB d q).2 = q - sizeC (reaC d)) := by
  refine Datum.ind fun d ih q hq => ?_
  have hs : 1 ≤ sizeC (reaC d) := by rw [sizeC_eq]; omega
  rw [rdB_eq, rok_eq]
  by_cases h1 : q - 1 < 0
  · rw [if_pos h1]; exact ⟨⟨fun h => Bool.noConfusion h, fun h => by omega⟩, fun h => Bool.noConfusion h⟩
  rw [if_neg h1]
  by_cases h2 : d.kind = 1
  · have hz : sizeC (reaC d) = 1 := by rw [reaC_eq, if_pos (by omega), reaA_size]
    rw [if_pos h2, if_pos h2, hz]
    exact ⟨⟨fun h => ⟨by omega, h⟩, fun h => h.2⟩, fun _ => rfl⟩
  rw [if_neg h2, if_neg h2]
  by_cases h3 : d.kind ≠ 0 ∨ (d.items.length : Int) = 0
  · rw [if_pos h3, if_pos h3]; exact ⟨⟨fun h => Bool.noConfusion h, fun h => Bool.noConfusion h.2⟩, fun h => Bool.noConfusion h⟩
  rw [if_neg h3, if_neg h3]
  have hr : reaC d = reaN (formK (d.items.getD 0 default)) d.items (d.items.map reaC) := by rw [reaC_eq, if_neg (by omega), if_neg (by omega)]
  generalize hK : formK (d.items.getD 0 default) = K at *
  cases h4 : hedB K d.items with
  | false => rw [if_pos rfl]; exact ⟨⟨fun h => Bool.noConfusion h, fun h => by simp at h⟩, fun h => Bool.noConfusion h⟩
  | true =>
    rw [if_neg (by simp)]
    by_cases h5 : K = 1
    · subst h5
      have hz : sizeC (reaC d) = 1 := by
        rw [hr]; unfold reaN; rw [if_pos rfl]; unfold hedB at h4; rw [if_pos rfl, decide_eq_true_eq] at h4; rw [if_pos h4, sizeC_eq]; rfl
      rw [if_pos rfl, hz]
      exact ⟨⟨fun _ => ⟨by omega, by simp⟩, fun _ => rfl⟩, fun _ => rfl⟩
    · rw [if_neg h5]
      have hn : ¬ (headK K = true ∧ (d.items.length : Int) < 2) := by
        rintro ⟨a, b⟩; unfold hedB at h4; rw [if_neg h5, if_pos a, Bool.and_eq_true, decide_eq_true_eq] at h4; omega
      have hz : sizeC (reaC d) = 1 + sumBy (fun x => sizeC (reaC x)) (d.items.drop (atK K)) := by
        rw [hr]; unfold reaN; rw [if_neg h5, if_neg hn, sizeC_eq]
        show sumBy sizeC ((d.items.map reaC).drop (atK K)) + 1 = _
        rw [← List.map_drop, sum_map]; omega
      have h6 := scan_dn rdB (fun x => sizeC (reaC x)) rok (d.items.drop (atK K)) (fun x hx m hm => ih x (List.mem_of_mem_drop hx) m hm) (q - 1) (by omega)
      rw [hz]
      simp only [h5, decide_false, Bool.false_or, Bool.true_and]
      refine ⟨?_, fun h => by rw [h6.2 h]; omega⟩
      rw [h6.1]
      constructor
      · rintro ⟨a, b⟩; exact ⟨by omega, b⟩
      · rintro ⟨a, b⟩; exact ⟨by omega, b⟩
theorem nilC_bad : okC nilC = false := by decide +kernel
theorem head_len {k n : Int} {p : List Int} (hk : k = 4 ∨ k = 5 ∨ k = 6 ∨ k = 7 ∨ k = 8 ∨ k = 9 ∨ k = 10 ∨ k = 11) : (headU k n p).length = atK k := by
  rcases hk with rfl | rfl | rfl | rfl | rfl | rfl | rfl | rfl <;> rfl
theorem formK_in (d : Datum) : formK d = 1 ∨ formK d = 4 ∨ formK d = 5 ∨ formK d = 6 ∨ formK d = 7 ∨ formK d = 8 ∨ formK d = 9 ∨ formK d = 10 ∨ formK d = 11 := by
  unfold formK; repeat' split
  all_goals simp
theorem rd_need : ∀ d : Datum, okC (reaC d) = true → okV (reaC d) = true → unpD (reaC d) = d → rok d = true := by
  refine Datum.ind fun d ih h1 h2 h3 => ?_
  rw [rok_eq]
  rw [reaC_eq] at h1 h2 h3
  by_cases h0 : d.kind ≠ 0
  · rw [if_pos h0] at h1
    unfold reaA at h1
    split at h1
    · rename_i h4
      have : d.kind = 1 := by
        unfold numD at h4; split at h4
        · rename_i h5; have := h5.1; simp only [vrB, Bool.and_eq_true, decide_eq_true_eq] at this; exact this.1.1
        · omega
      rw [if_pos this]; exact decide_eq_true (.inl h4)
    · split at h1
      · rename_i h4; rw [if_pos h4.2]; exact decide_eq_true (.inr h4.1)
      · rw [nilC_bad] at h1; cases h1
  have h0' : d.kind = 0 := by omega
  rw [if_neg h0] at h1 h2 h3
  by_cases hl : (d.items.length : Int) = 0
  · rw [if_pos hl, nilC_bad] at h1; cases h1
  rw [if_neg hl] at h1 h2 h3
  rw [if_neg (by omega), if_neg (by omega)]
  have hin := formK_in (d.items.getD 0 default)
  generalize formK (d.items.getD 0 default) = K at *
  unfold reaN at h1 h2 h3
  by_cases h5 : K = 1
  · subst h5
    rw [if_pos rfl] at h1
    by_cases h6 : (d.items.length : Int) = 2
    · simp [hedB, h6]
    · rw [if_neg h6, nilC_bad] at h1; cases h1
  rw [if_neg h5] at h1 h2 h3
  by_cases h6 : headK K = true ∧ (d.items.length : Int) < 2
  · rw [if_pos h6, nilC_bad] at h1; cases h1
  rw [if_neg h6] at h1 h2 h3
  have hin' : K = 4 ∨ K = 5 ∨ K = 6 ∨ K = 7 ∨ K = 8 ∨ K = 9 ∨ K = 10 ∨ K = 11 := by omega
  rw [unpD_eq] at h3
  simp only at h3
  rw [if_neg h5, if_neg (by omega), if_neg (by omega)] at h3
  have h7 : headU K (nbrK K d.items) (parK K d.items) ++ ((d.items.map reaC).drop (atK K)).map unpD = d.items := congrArg Datum.items h3
  have h8 : ((d.items.drop (atK K)).map reaC).map unpD = d.items.drop (atK K) := by
    have := congrArg (List.drop (atK K)) h7
    rw [List.drop_append_of_le_length (by rw [head_len hin']; exact Nat.le_refl _), List.drop_of_length_le (by rw [head_len hin']; exact Nat.le_refl _), List.nil_append, ← List.map_drop] at this
    exact this
  rw [okC_eq, Bool.and_eq_true, List.all_eq_true] at h1
  rw [okV_eq, Bool.and_eq_true, Bool.and_eq_true, List.all_eq_true, List.all_eq_true] at h2
  simp only at h1 h2
  rw [← List.map_drop] at h1 h2
  rw [Bool.and_eq_true, Bool.or_eq_true]
  refine ⟨?_, .inr (List.all_eq_true.2 fun x hx => ?_)⟩
  · unfold hedB
    rw [if_neg h5]
    by_cases hh : headK K = true
    · rw [if_pos hh, Bool.and_eq_true, decide_eq_true_eq]
      have hlen : 1 < (d.items.length : Int) := by
        rcases Int.lt_or_le (d.items.length : Int) 2 with a | a
        · exact absurd ⟨hh, a⟩ h6
        · omega
      refine ⟨hlen, ?_⟩
      split
      · rename_i h59
        rw [Bool.and_eq_true, decide_eq_true_eq, List.all_eq_true]
        refine ⟨?_, fun x hx => ?_⟩
        · have e : (headU K (nbrK K d.items) (parK K d.items) ++ ((d.items.map reaC).drop (atK K)).map unpD).getD 1 default = d.items.getD 1 default := by rw [h7]
          rw [← e]
          rcases h59 with rfl | rfl <;> rfl
        · have hp : numD x ∈ parK K d.items := by
            unfold parK; rw [if_neg (by omega), if_pos h59]; exact List.mem_map.2 ⟨x, hx, rfl⟩
          exact decide_eq_true (smI_iff.1 (h2.2.2 _ hp)).1
      · rename_i h59
        simp only [headK, decide_eq_true_eq] at hh
        have h411 : K = 4 ∨ K = 11 := by omega
        rcases h411 with rfl | rfl
        · have := h2.2.1
          simp only [nbrK, if_pos] at this
          simp at this
          exact decide_eq_true (smI_iff.1 this).1
        · exact decide_eq_true (smI_iff.1 (h2.2.2 (numD (d.items.getD 1 default)) (by simp [parK]))).1
    · rw [if_neg hh]
  · have hx' := List.mem_of_mem_drop hx
    refine ih x hx' (h1.1 _ (List.mem_map.2 ⟨x, hx, rfl⟩)) (h2.1 _ (List.mem_map.2 ⟨x, hx, rfl⟩)) ?_
    rw [List.map_map] at h8
    have : ∀ L : List Datum, L.map (unpD ∘ reaC) = L → ∀ y ∈ L, unpD (reaC y) = y := by
      intro L; induction L with
      | nil => intro _ y hy; cases hy
      | cons a r ihr =>
        intro h y hy
        rw [List.map_cons, List.cons.injEq] at h
        rcases List.mem_cons.1 hy with rfl | hy
        · exact h.1
        · exact ihr h.2 y hy
    exact this _ h8 x hx
def rcB (d : Datum) : Bool := valC (reaC d) && decide (unpD (reaC d) = d)
theorem rc_rd {d : Datum} (h : rcB d = true) : (rdB d 3000).1 = true := by
  simp only [rcB, Bool.and_eq_true, decide_eq_true_eq] at h
  have h1 := valC_K h.1
  exact ((rd_ok d 3000 (by decide)).1).2 ⟨by omega, rd_need d h1.1 (valC_V h.1) h.2⟩
theorem reaC_w : ∀ d : Datum, wC (reaC d) ≤ 2 * wD d := by
  refine Datum.ind fun d ih => ?_
  have hn : wC nilC = 0 := by decide
  rw [reaC_eq]
  split
  · unfold reaA; split
    · rw [wC_eq]; show 0 + wD (lstD []) + 0 ≤ _; have : wD (lstD []) = 0 := by decide
      omega
    · split
      · rw [wC_eq]; show 0 + wD (lstD []) + 0 ≤ _; have : wD (lstD []) = 0 := by decide
        omega
      · omega
  split
  · omega
  rename_i hl
  generalize formK (d.items.getD 0 default) = K
  have hz : wD (lstD []) = 0 := by decide
  have h1 := wD_eq d
  have hmem : 2 ≤ d.items.length → d.items.getD 1 default ∈ d.items := fun h => getD_mem' (by omega)
  have hone : wD (d.items.getD 1 default) ≤ sumBy wD d.items := by
    by_cases h : 2 ≤ d.items.length
    · exact sumBy_mem wD (hmem h)
    · rw [List.getD_eq_getElem?_getD, List.getElem?_eq_none (by omega)]; exact Nat.zero_le _
  unfold reaN
  split
  · split
    · rw [wC_eq]; show 0 + wD (d.items.getD 1 default) + 0 ≤ _; omega
    · omega
  · split
    · omega
    · rename_i h5 h6
      rw [wC_eq]
      show (parK K d.items).length + wD (lstD []) + (((d.items.map reaC).drop (atK K)).length + sumBy wC ((d.items.map reaC).drop (atK K))) ≤ _
      rw [← List.map_drop, sum_map, List.length_map, List.length_drop]
      have h7 : ∀ L : List Datum, (∀ x ∈ L, wC (reaC x) ≤ 2 * wD x) → sumBy (fun x => wC (reaC x)) L ≤ 2 * sumBy wD L := by
        intro L; induction L with
        | nil => intro _; simp [sumBy]
        | cons x r ihr => intro h; have := ihr fun y hy => h y (List.mem_cons_of_mem _ hy); have := h x List.mem_cons_self; simp only [sumBy]; omega
      have h8 := h7 (d.items.drop (atK K)) fun x hx => ih x (List.mem_of_mem_drop hx)
      have h9 : sumBy wD d.items = sumBy wD (d.items.take (atK K)) + sumBy wD (d.items.drop (atK K)) := by rw [← sumBy_append, List.take_append_drop]
      have h10 : (parK K d.items).length ≤ 1 + wD (d.items.getD 1 default) := by
        unfold parK; split
        · simp
        · split
          · rw [List.length_map]; have := wD_eq (d.items.getD 1 default); omega
          · simp
      by_cases hp : parK K d.items = []
      · rw [hp]; simp only [List.length_nil]; omega
      · have hk : K = 5 ∨ K = 9 ∨ K = 11 := by
          unfold parK at hp; split at hp
          · omega
          · split at hp
            · omega
            · exact absurd rfl hp
        have h2 : 2 ≤ d.items.length := by
          rcases Int.lt_or_le (d.items.length : Int) 2 with a | a
          · exact absurd ⟨by rcases hk with rfl | rfl | rfl <;> rfl, a⟩ h6
          · omega
        have ha : atK K = 2 := by rcases hk with rfl | rfl | rfl <;> rfl
        rw [ha] at h8 h9 ⊢
        have h11 : wD (d.items.getD 1 default) ≤ sumBy wD (d.items.take 2) := sumBy_mem wD (by
          have : d.items.getD 1 default = (d.items.take 2).getD 1 default := by
            simp only [List.getD_eq_getElem?_getD, List.getElem?_take]; simp
          rw [this]; exact getD_mem' (by rw [List.length_take]; omega))
        omega
end Go.Proofs.YtgeegppaaggcjaaGreatDoor
end
section
namespace Go.Proofs.YtgeegppaaggcjaaGreatDoor
open Go Go.Shelf Go.RowKit Go.Proofs.YtgeegppaaggcjaaGreatDoor.Ab
set_option linter.unusedVariables false
def atoRen : Go.Shelf.Ren := ⟨fun | 172 => 148 | 244 => 166 | 245 => 167 | 247 => 179 | 279 => 180 | 280 => 181 | 281 => 182 | 282 => 183 | 287 => 189 | 316 => 190 | 171 => 143 | 205 => 191 | 321 => 194 | 322 => 195 | 243 => 164 | 246 => 175 | 283 => 171 | 284 => 172 | 285 => 173 | 286 => 174 | 129 => 185 | 317 => 184 | 318 => 186 | 319 => 187 | 320 => 188 | 337 => 192 | 338 => 193 | n => n, fun | 9 => 9 | 3 => 3 | 75 => 143 | 76 => 144 | 4 => 4 | 5 => 5 | 167 => 162 | 37 => 60 | 0 => 0 | 85 => 163 | 2 => 2 | 168 => 165 | 53 => 151 | 175 => 175 | 46 => 173 | 210 => 179 | 127 => 183 | 145 => 186 | 143 => 184 | 21 => 21 | 171 => 155 | 173 => 158 | 212 => 169 | 51 => 170 | 20 => 20 | 213 => 171 | 232 => 187 | 233 => 188 | 80 => 189 | n => n, fun | 15 => 1 | 16 => 2 | 17 => 0 | 18 => 3 | 19 => 4 | n => n⟩
theorem atoLays : Go.Proofs.LaysC.n172 Tryz.prog atoRen := {
  mixed := by kernel_rfl
  f129 := Tryz.func185.trans (congrArg some (by kernel_rfl))
  f171 := Tryz.func143.trans (congrArg some (by kernel_rfl))
  f172 := Tryz.func148.trans (congrArg some (by kernel_rfl))
  f205 := Tryz.func191.trans (congrArg some (by kernel_rfl))
  f243 := Tryz.func164.trans (congrArg some (by kernel_rfl))
  f244 := Tryz.func166.trans (congrArg some (by kernel_rfl))
  f245 := Tryz.func167.trans (congrArg some (by kernel_rfl))
  f246 := Tryz.func175.trans (congrArg some (by kernel_rfl))
  f247 := Tryz.func179.trans (congrArg some (by kernel_rfl))
  f279 := Tryz.func180.trans (congrArg some (by kernel_rfl))
  f280 := Tryz.func181.trans (congrArg some (by kernel_rfl))
  f281 := Tryz.func182.trans (congrArg some (by kernel_rfl))
  f282 := Tryz.func183.trans (congrArg some (by kernel_rfl))
  f283 := Tryz.func171.trans (congrArg some (by kernel_rfl))
  f284 := Tryz.func172.trans (congrArg some (by kernel_rfl))
  f285 := Tryz.func173.trans (congrArg some (by kernel_rfl))
  f286 := Tryz.func174.trans (congrArg some (by kernel_rfl))
  f287 := Tryz.func189.trans (congrArg some (by kernel_rfl))
  f316 := Tryz.func190.trans (congrArg some (by kernel_rfl))
  f317 := Tryz.func184.trans (congrArg some (by kernel_rfl))
  f318 := Tryz.func186.trans (congrArg some (by kernel_rfl))
  f319 := Tryz.func187.trans (congrArg some (by kernel_rfl))
  f320 := Tryz.func188.trans (congrArg some (by kernel_rfl))
  f321 := Tryz.func194.trans (congrArg some (by kernel_rfl))
  f322 := Tryz.func195.trans (congrArg some (by kernel_rfl))
  f337 := Tryz.func192.trans (congrArg some (by kernel_rfl))
  f338 := Tryz.func193.trans (congrArg some (by kernel_rfl))
  t0 := Tryz.underlying0
  a0 := Tryz.isAgg0
  z0 := Tryz.sizeOf0
  v0 := Tryz.zeroValue0
  t2 := Tryz.underlying2
  a2 := Tryz.isAgg2
  z2 := Tryz.sizeOf2
  v2 := Tryz.zeroValue2
  t3 := Tryz.underlying3
  a3 := Tryz.isAgg3
  z3 := Tryz.sizeOf3
  v3 := Tryz.zeroValue3
  t4 := Tryz.underlying4
  a4 := Tryz.isAgg4
  z4 := Tryz.sizeOf4
  v4 := Tryz.zeroValue4
  t5 := Tryz.underlying5
  a5 := Tryz.isAgg5
  z5 := Tryz.sizeOf5
  v5 := Tryz.zeroValue5
  t9 := Tryz.underlying9
  a9 := Tryz.isAgg9
  z9 := Tryz.sizeOf9
  v9 := Tryz.zeroValue9
  t20 := Tryz.underlying20
  a20 := Tryz.isAgg20
  z20 := Tryz.sizeOf20
  v20 := Tryz.zeroValue20
  t21 := Tryz.underlying21
  a21 := Tryz.isAgg21
  z21 := Tryz.sizeOf21
  v21 := Tryz.zeroValue21
  t37 := Tryz.underlying60
  a37 := Tryz.isAgg60
  z37 := Tryz.sizeOf60
  v37 := Tryz.zeroValue60
  t46 := Tryz.underlying173
  a46 := Tryz.isAgg173
  z46 := Tryz.sizeOf173
  v46 := Tryz.zeroValue173
  t51 := Tryz.underlying170
  a51 := Tryz.isAgg170
  z51 := Tryz.sizeOf170
  v51 := Tryz.zeroValue170
  t53 := Tryz.underlying151
  a53 := Tryz.isAgg151
  z53 := Tryz.sizeOf151
  v53 := Tryz.zeroValue151
  t75 := Tryz.underlying143
  a75 := Tryz.isAgg143
  z75 := Tryz.sizeOf143
  v75 := Tryz.zeroValue143
  t76 := Tryz.underlying144
  a76 := Tryz.isAgg144
  z76 := Tryz.sizeOf144
  v76 := Tryz.zeroValue144
  t85 := Tryz.underlying163
  a85 := Tryz.isAgg163
  z85 := Tryz.sizeOf163
  v85 := Tryz.zeroValue163
  t127 := Tryz.underlying183
  a127 := Tryz.isAgg183
  z127 := Tryz.sizeOf183
  v127 := Tryz.zeroValue183
  t143 := Tryz.underlying184
  a143 := Tryz.isAgg184
  z143 := Tryz.sizeOf184
  v143 := Tryz.zeroValue184
  t145 := Tryz.underlying186
  a145 := Tryz.isAgg186
  z145 := Tryz.sizeOf186
  v145 := Tryz.zeroValue186
  t167 := Tryz.underlying162
  a167 := Tryz.isAgg162
  z167 := Tryz.sizeOf162
  v167 := Tryz.zeroValue162
  t168 := Tryz.underlying165
  a168 := Tryz.isAgg165
  z168 := Tryz.sizeOf165
  v168 := Tryz.zeroValue165
  t171 := Tryz.underlying155
  a171 := Tryz.isAgg155
  z171 := Tryz.sizeOf155
  v171 := Tryz.zeroValue155
  t173 := Tryz.underlying158
  a173 := Tryz.isAgg158
  z173 := Tryz.sizeOf158
  v173 := Tryz.zeroValue158
  t175 := Tryz.underlying175
  a175 := Tryz.isAgg175
  z175 := Tryz.sizeOf175
  v175 := Tryz.zeroValue175
  t210 := Tryz.underlying179
  a210 := Tryz.isAgg179
  z210 := Tryz.sizeOf179
  v210 := Tryz.zeroValue179
  t212 := Tryz.underlying169
  a212 := Tryz.isAgg169
  z212 := Tryz.sizeOf169
  v212 := Tryz.zeroValue169
  t213 := Tryz.underlying171
  a213 := Tryz.isAgg171
  z213 := Tryz.sizeOf171
  t232 := Tryz.underlying187
  a232 := Tryz.isAgg187
  z232 := Tryz.sizeOf187
  v232 := Tryz.zeroValue187
  t233 := Tryz.underlying188
  a233 := Tryz.isAgg188
  z233 := Tryz.sizeOf188
  v233 := Tryz.zeroValue188
  g15 := by kernel_rfl
  g16 := by kernel_rfl
  g17 := by kernel_rfl
  g18 := by kernel_rfl
  g19 := by kernel_rfl
  t80 := Tryz.underlying189
  a80 := Tryz.isAgg189
  z80 := Tryz.sizeOf189
  v80 := Tryz.zeroValue189
  i0 := by kernel_rfl
  i2 := by kernel_rfl
  i3 := by kernel_rfl
  i4 := by kernel_rfl
  i5 := by kernel_rfl
  i9 := by kernel_rfl
  i20 := by kernel_rfl
  i21 := by kernel_rfl
  i37 := by kernel_rfl
  i46 := by kernel_rfl
  i51 := by kernel_rfl
  i53 := by kernel_rfl
  i75 := by kernel_rfl
  i76 := by kernel_rfl
  i80 := by kernel_rfl
  i85 := by kernel_rfl
  i127 := by kernel_rfl
  i143 := by kernel_rfl
  i145 := by kernel_rfl
  i167 := by kernel_rfl
  i168 := by kernel_rfl
  i171 := by kernel_rfl
  i173 := by kernel_rfl
  i175 := by kernel_rfl
  i210 := by kernel_rfl
  i212 := by kernel_rfl
  i232 := by kernel_rfl
  i233 := by kernel_rfl
  m15 := by kernel_rfl
  m16 := by kernel_rfl
  m17 := by kernel_rfl
  m18 := by kernel_rfl
  m19 := by kernel_rfl
  c0 := by kernel_rfl
  c2 := by kernel_rfl
  c3 := by kernel_rfl
  c4 := by kernel_rfl
  c5 := by kernel_rfl
  c9 := by kernel_rfl
  c20 := by kernel_rfl
  c21 := by kernel_rfl
  c37 := by kernel_rfl
  c46 := by kernel_rfl
  c51 := by kernel_rfl
  c53 := by kernel_rfl
  c75 := by kernel_rfl
  c76 := by kernel_rfl
  c80 := by kernel_rfl
  c85 := by kernel_rfl
  c127 := by kernel_rfl
  c143 := by kernel_rfl
  c145 := by kernel_rfl
  c167 := by kernel_rfl
  c168 := by kernel_rfl
  c171 := by kernel_rfl
  c173 := by kernel_rfl
  c175 := by kernel_rfl
  c210 := by kernel_rfl
  c212 := by kernel_rfl
  c213 := by kernel_rfl
  c232 := by kernel_rfl
  c233 := by kernel_rfl }
theorem kn_es {w : Go.World} {ι : Interp} (hk : Kn Tryz.prog w ι) : ∃ te pe, w.cell? ⟨1, 0, none⟩ = some (.iface te pe) := by
  have hg : Tryz.prog.globalNamed "strconv.ErrSyntax" = some 1 := by kernel_rfl
  obtain ⟨_, _, cs, hv, te, pe, rfl⟩ := hk.2 rfl 1 hg
  exact ⟨te, pe, by have h0 := World.var?_cell hg hv 0; simpa using h0⟩
abbrev TabW (w : Go.World) : Prop := ∀ w', Below w.heap.size w w' → Lib.TabIs Tryz.prog w' pow10N .u64 Lib.pow10Tab
theorem kn_tabW {w : Go.World} {ι : Interp} (hk : Kn Tryz.prog w ι) : TabW w := fun w' hb => by
  cases hg : Tryz.prog.globalNamed pow10N with
  | none => have : (Tryz.prog.globalNamed pow10N).isSome = true := by kernel_rfl
            rw [hg] at this; cases this
  | some g => obtain ⟨hlt, _, cs, hv, rfl⟩ := hk.1 g hg; exact var?_below hb hg hlt hv
theorem fmt_calls (n : Int) (h0 : -9223372036854775808 ≤ n) (h1 : n ≤ 9223372036854775807) (w : Go.World) (htab : Lib.TabIs Tryz.prog w pow10N .u64 Lib.pow10Tab) :
    Calls Tryz.prog 113 #[.int .i64 n] w fun e w' => e = .returned (.string ⟨(Lib.itoa n).toArray⟩) ∧ Below w.heap.size w w' := by
  go_enter Tryz.func113, Tryz.ntmps113
  go_wp2_with (go_at_call 143; refine (Any.strconv_Itoa itoLays n h0 h1 _ (Eq.subst (motive := fun s => Lib.TabIs Tryz.prog w s .u64 Lib.pow10Tab) (by kernel_rfl) htab)).mono ?_; rintro e w' ⟨rfl, k, os, rfl⟩)
  go_ret
  refine ⟨rfl, rfl, rfl, rfl, ?_, fun j hj => ?_⟩
  · show w.heap.size ≤ (w.heap ++ os).size
    rw [Array.size_append]; omega
  · show (w.heap ++ os)[j]? = w.heap[j]?
    exact Array.getElem?_append_left hj
theorem num_big {s : ByteArray} (h : s.size = 0 ∨ 10 < s.size) : isNum s = false := by
  cases e : isNum s with
  | false => rfl
  | true => have := (num_atoi e).2; omega
theorem num_atoi0 {s : ByteArray} (h : Lib.atoi (tx s) = none) : isNum s = false := by
  cases e : isNum s with
  | false => rfl
  | true => have := (num_atoi e).1; rw [h] at this; cases this
set_option maxRecDepth 100000 in
theorem pn_calls (s : ByteArray) (w : Go.World) (htab : TabW w) (hes : ∃ te pe, w.cell? ⟨1, 0, none⟩ = some (.iface te pe)) :
    Calls Tryz.prog 124 #[.string s] w fun e w' => e = .returned (.tuple #[.int .i64 (numV s), .bool (isNum s)]) ∧ Below w.heap.size w w' := by
  by_cases hz : s.size = 0 ∨ 10 < s.size
  · have hn := num_big hz
    rw [num_none hn, hn]
    go_enter Tryz.func124, Tryz.ntmps124
    rcases hz with hz | hz
    all_goals go_wp2
    all_goals go_ret2
    all_goals exact ⟨rfl, Below.refl _ _⟩
  · obtain ⟨te, pe, hev⟩ := hes
    cases h : Lib.atoi s.data.toList with
    | none =>
      have hn := num_atoi0 h
      rw [num_none hn, hn]
      go_enter Tryz.func124, Tryz.ntmps124
      go_wp2_with (go_at_call 148; refine (Any.strconv_Atoi_err atoLays s (by omega) h _ _ hev (Or.inr ⟨te, pe, rfl⟩)).mono ?_; rintro e W1 ⟨N, rfl, -, -, hb⟩)
      all_goals go_ret2
      all_goals first | exact ⟨rfl, Below.refl _ _⟩ | exact ⟨rfl, by assumption⟩
    | some n =>
      have hN : isNum s = true → n = sgN s := fun e => Option.some.inj (h.symm.trans (num_atoi e).1)
      go_enter Tryz.func124, Tryz.ntmps124
      go_wp2_with (first
        | (go_at_call 148; refine (Any.strconv_Atoi { atoLays with } s n (by omega) h _).mono ?_; rintro e w' ⟨rfl, t, rfl⟩; have hb1 := Lib.bytesWorld_below w (atoRen.t 5) t; have htab1 := htab _ hb1)
        | (go_at_call 113; refine (fmt_calls n (by omega) (by omega) _ (by assumption)).mono ?_; rintro e W2 ⟨rfl, hb2⟩))
      all_goals go_ret2
      · rename_i e; exact absurd (Or.inl (by rw [e]; rfl)) hz
      · rename_i e; exact absurd (e.imp (fun a => by have := eq_of_beq a; omega) (fun a => by omega)) hz
      · rename_i hb2 e
        have hn : isNum s = false := by
          cases q : isNum s with
          | false => rfl
          | true =>
            have hr := num_range q
            rw [← hN q] at hr
            rcases e with e | e
            · omega
            · rw [hr.2.2.2, ByteArray.toList_eq] at e; simp at e
        rw [num_none hn, hn]
        exact ⟨rfl, hb1.trans (hb2.mono hb1.size)⟩
      · rename_i hb2 e
        have ei : Lib.itoa n = tx s := by have := e.2; rw [ByteArray.toList_eq] at this; simpa using this
        have hq := atoi_num h e.1 ei
        have hv : numV s = n := by rw [(num_range hq.1).2.2.1, hq.2]
        rw [hv, hq.1]
        exact ⟨rfl, hb1.trans (hb2.mono hb1.size)⟩
      all_goals
        have hn : isNum s = false := by
          cases q : isNum s with
          | false => rfl
          | true => have hr := num_range q; rw [← hN q] at hr; omega
        rw [num_none hn, hn]
        exact ⟨rfl, by assumption⟩
abbrev P_c_iPNum (s : ByteArray) : Ct := ⟨124, [], [ls s], [], .tup [li (numV s), lb (isNum s)]⟩
theorem c_iPNum (s : ByteArray) : OK (P_c_iPNum s) := by
  refine ⟨Tryz.call124, fun w ι vals hp hk => ?_⟩
  have harg := hp.arg
  rcases vals with ⟨l⟩
  match l, harg with
  | [v0], ⟨h0, _⟩ =>
    obtain ⟨rfl, _⟩ := h0.1.lit_inv
    refine (pn_calls s w (kn_tabW hk) (kn_es hk)).mono fun e w' hh => ?_
    obtain ⟨rfl, hb⟩ := hh
    exact ⟨_, ι, rfl, post_below hp hb ⟨_, rfl, ⟨.lit trivial, fun _ => rfl⟩, ⟨.lit trivial, fun _ => rfl⟩, trivial⟩⟩
end Go.Proofs.YtgeegppaaggcjaaGreatDoor
end
section
namespace Go.Proofs.YtgeegppaaggcjaaGreatDoor
open Go Go.Proofs.YtgeegppaaggcjaaGreatDoor.Ab
set_option linter.unusedVariables false
set_option linter.unusedSimpArgs false
set_option maxHeartbeats 4000000
theorem rea_var {d : Datum} (h0 : d.kind ≠ 0) (h : 0 ≤ numD d) : reaC d = ⟨2, numD d, [], lstD [], []⟩ := by rw [reaC_eq, if_pos h0, reaA, if_pos h]
theorem rea_prim {d : Datum} (h0 : d.kind = 1) (h : ¬ 0 ≤ numD d) (h1 : 0 ≤ idxL primNames d.text) : reaC d = ⟨3, idxL primNames d.text, [], lstD [], []⟩ := by rw [reaC_eq, if_pos (by omega), reaA, if_neg h, if_pos ⟨h1, h0⟩]
theorem rea_nil {d : Datum} (h0 : d.kind ≠ 0) (h : ¬ 0 ≤ numD d) (h1 : ¬ (0 ≤ idxL primNames d.text ∧ d.kind = 1)) : reaC d = ⟨0, 0, [], lstD [], []⟩ := by rw [reaC_eq, if_pos h0, reaA, if_neg h, if_neg h1]; rfl
theorem rea_emp {d : Datum} (h0 : d.kind = 0) (h : (d.items.length : Int) = 0) : reaC d = ⟨0, 0, [], lstD [], []⟩ := by rw [reaC_eq, if_neg (by omega), if_pos h]; rfl
theorem rea_quo {d : Datum} (h0 : d.kind = 0) (h : ¬ (d.items.length : Int) = 0) (hK : formK (d.items.getD 0 default) = 1) (h2 : (d.items.length : Int) = 2) : reaC d = ⟨1, 0, [], d.items.getD 1 default, []⟩ := by
  rw [reaC_eq, if_neg (by omega), if_neg h, hK, reaN, if_pos rfl, if_pos h2]
theorem rea_quo0 {d : Datum} (h0 : d.kind = 0) (h : ¬ (d.items.length : Int) = 0) (hK : formK (d.items.getD 0 default) = 1) (h2 : ¬ (d.items.length : Int) = 2) : reaC d = ⟨0, 0, [], lstD [], []⟩ := by
  rw [reaC_eq, if_neg (by omega), if_neg h, hK, reaN, if_pos rfl, if_neg h2]; rfl
theorem rea_bad {d : Datum} (h0 : d.kind = 0) (h : ¬ (d.items.length : Int) = 0) (hK : ¬ formK (d.items.getD 0 default) = 1) (h1 : headK (formK (d.items.getD 0 default)) = true) (h2 : (d.items.length : Int) < 2) : reaC d = ⟨0, 0, [], lstD [], []⟩ := by
  rw [reaC_eq, if_neg (by omega), if_neg h, reaN, if_neg hK, if_pos ⟨h1, h2⟩]; rfl
theorem rea_form {d : Datum} (h0 : d.kind = 0) (h : ¬ (d.items.length : Int) = 0) (hK : ¬ formK (d.items.getD 0 default) = 1) (h1 : ¬ (headK (formK (d.items.getD 0 default)) = true ∧ (d.items.length : Int) < 2)) :
    reaC d = ⟨formK (d.items.getD 0 default), nbrK (formK (d.items.getD 0 default)) d.items, parK (formK (d.items.getD 0 default)) d.items, lstD [], (d.items.drop (atK (formK (d.items.getD 0 default)))).map reaC⟩ := by
  rw [reaC_eq, if_neg (by omega), if_neg h, reaN, if_neg hK, if_neg h1, List.map_drop]
theorem par_11k {k : Int} {l : List Datum} (h : k = 11) : (parK k l).map intC = [[cI (numD (l.getD 1 default))]] := by subst h; rfl
theorem numD_snoc (L : List Datum) (k : Nat) (h : k < L.length) : ((L.take k).map numD).map intC ++ [[cI (numD (L.getD k default))]] = ((L.take (k + 1)).map numD).map intC := by
  rw [take_get h]; simp only [List.map_append, List.map_cons, List.map_nil]; rfl
abbrev P_c_sNbr (d : Datum) : Ct := ⟨69, [], [datumA d], [], .sv (li (numD d))⟩
theorem c_sNbr (d : Datum)  : P_c_sNbr d := fnOK Tryz.call69 Tryz.func69 (.i (d.kind ≠ 1) (.y true (.y true (.s (li (-1 : Int))))) (.h (d.text.data.toList.length ≤
 9223372036854775807) (.i ((↑d.text.data.toList.length : Int) < 2) (.y true (.s (li (-1 : Int)))) (.p ((0 : Int) ≤ 0 ∧ 0 < d.text.data.toList.length) (.i
 ((↑(d.text.data.toList.getD 0 (0 : UInt8)).toNat : Int) ≠ 118) (.s (li (-1 : Int))) (.p ((0 : Int) ≤ 1) (.p (1 ≤ d.text.data.toList.length ∧ d.text.data.toList.length ≤
 d.text.data.toList.length) (.c [.rd] (c_sPNum (ByteArray.mk (List.take (d.text.data.toList.length - 1) (List.drop 1 d.text.data.toList)).toArray)) (.b (!isNum (ByteArray.mk
 (List.take (d.text.data.toList.length - 1) (List.drop 1 d.text.data.toList)).toArray)) (.y true (.s (li (-1 : Int)))) (.c [.rd, .rd, .rd] (c_l1In (numV (ByteArray.mk (List.take
 (d.text.data.toList.length - 1) (List.drop 1 d.text.data.toList)).toArray)) 0 99999) (.b (!decide (0 ≤ numV (ByteArray.mk (List.take (d.text.data.toList.length - 1) (List.drop 1
 d.text.data.toList)).toArray) ∧ numV (ByteArray.mk (List.take (d.text.data.toList.length - 1) (List.drop 1 d.text.data.toList)).toArray) ≤ 99999)) (.s (li (-1 : Int))) (.s (li
 (numV (ByteArray.mk (List.take (d.text.data.toList.length - 1) (List.drop 1 d.text.data.toList)).toArray))))))))))))))) (by
  dsimp only [teasy, P_c_sNbr]
  with_reducible repeat' (first | apply And.intro | exact zR | (intro; skip))
  all_goals (try simp only [std, inj] at *)
  all_goals with_reducible repeat' apply And.intro
  all_goals (try (first | exact z | grind [numD, vrB, tlS, snocI, snocS, rowSnoc])))
abbrev P_c_sIdx (L : List ByteArray) (s : ByteArray) : Ct := ⟨70, [], [ll (L.map strC), ls s], [], .sv (li (idxL L s))⟩
def lc_sIdxLa (L : List ByteArray) (s : ByteArray) : Lp Nat := .mk 19 0 (fun x => [(1, ls s), (7, ll (List.map strC L)), (8, li (↑(List.map strC L).length : Int)), (9, hs x 0)])
 (fun x => []) (fun k => [.s (li (↑k : Int))]) (fun k => k ≤ L.length ∧ L.length ≤ 9223372036854775807 ∧ ¬s ∈ List.take k L) (fun k => L.length - k) [.mk (idxL L s = (-1 : Int))
 (.exit 0) (fun x => []) (fun x => []) [], .mk (0 ≤ idxL L s) .ret (fun x => [(4, hs x 0)]) (fun x => []) [.s (li (idxL L s))]]
theorem Sc_sIdxLa (L : List ByteArray) (s : ByteArray) : Lp.Sem Tryz.prog (loopAt Tryz.f70 0) (lc_sIdxLa L s) := lpOK (fun k => .i ((↑k : Int) < (↑(List.map strC L).length : Int))
 (.x (↑k : Int) (List.map strC L) [cS (L.getD k default)] (.i ((L.getD k default).data.toList = s.data.toList) (.o 1 [] [.s (li (↑k : Int))]) (.r ((↑k : Int) + 1) (.g [] (k + 1)
 [.s (li ((↑k : Int) + 1))])))) (.o 0 [] [])) (by
  intro k h; try dsimp only [teasy, nthW, lc_sIdxLa] at h ⊢
  have g1 := @idx_at L s k
  have g2 := @idx_no L s
  with_reducible repeat' (first | apply And.intro | exact zR | (intro; skip))
  all_goals (try simp only [std, inj] at *)
  all_goals with_reducible repeat' apply And.intro
  all_goals (try (first | exact z | grind [take_get, bytes_ext, snocI, snocS, rowSnoc])))
theorem c_sIdx (L : List ByteArray) (s : ByteArray)  : P_c_sIdx L s := fnOK Tryz.call70 Tryz.func70 (.z strC L (.l (lc_sIdxLa L s) (Sc_sIdxLa L s) [] [.s (li 0)] 0 (.t (.s (li (-1 :
 Int))) (.t (.s (li (idxL L s))) .q)))) (by
  dsimp only [teasy, P_c_sIdx, nthW, lc_sIdxLa]
  with_reducible repeat' (first | apply And.intro | exact zR | (intro; skip))
  all_goals (try simp only [std, inj] at *)
  all_goals with_reducible repeat' apply And.intro
  all_goals (try (first | exact z | grind [snocI, snocS, rowSnoc])))
abbrev P_c_sPars (d : Datum) : Ct := ⟨74, [], [datumA d], [.arr true 1 ((d.items.map numD).map intC)], .sv (.one (.ref 0))⟩
def lc_sParsLa (d : Datum) : Lp Nat := .mk 21 0 (fun x => [(3, SV.one (AC.ref 0)), (8, ll (List.map datumC d.items)), (9, li (↑(List.map datumC d.items).length : Int)), (10, hs x
 0)]) (fun x => [ho x 1]) (fun k => [.s (li (↑k : Int)), .o (Ob.arr true 1 (List.map intC (List.map numD (List.take k d.items))))]) (fun k => k ≤ d.items.length ∧ d.items.length ≤
 9223372036854775807) (fun k => d.items.length - k) [.mk True (.exit 0) (fun x => [(3, SV.one (AC.ref 0))]) (fun x => [ho x 0]) [.o (Ob.arr true 1 (List.map intC (List.map numD
 d.items)))]]
theorem Sc_sParsLa (d : Datum) (h : wD d ≤ 1048576) : Lp.Sem Tryz.prog (loopAt Tryz.f74 0) (lc_sParsLa d) := lpOK (fun k => .i ((↑k : Int) < (↑(List.map datumC d.items).length :
 Int)) (.x (↑k : Int) (List.map datumC d.items) (datumF (d.items.getD k default)) (.c [.rd] (c_sNbr (d.items.getD k default)) (.p (((List.map intC (List.map numD (List.take k
 d.items))).length + 1) * 8 ≤ 140737488355328) (.r ((↑k : Int) + 1) (.g [3] (k + 1) [.s (li ((↑k : Int) + 1)), .o (Ob.arr true 1 (List.map intC (List.map numD (List.take k
 d.items)) ++ [[cI (numD (d.items.getD k default))]]))]))))) (.o 0 [0] [.o (Ob.arr true 1 (List.map intC (List.map numD (List.take k d.items))))])) (by
  intro k h; try dsimp only [teasy, nthW, lc_sParsLa] at h ⊢
  have g1 := numD_snoc d.items k
  have g2 := wD_eq d
  have g3 := numD_le (d.items.getD k default)
  with_reducible repeat' (first | apply And.intro | exact zR | (intro; skip))
  all_goals (try simp only [std, inj] at *)
  all_goals with_reducible repeat' apply And.intro
  all_goals (try (first | exact z | grind [snocI, snocS, rowSnoc, getD_mem'])))
theorem c_sPars (d : Datum) (h : wD d ≤ 1048576)  : P_c_sPars d := fnOK Tryz.call74 Tryz.func74 (.w (.bool false) (.z datumC d.items (.l (lc_sParsLa d) (Sc_sParsLa d h) [1] [.s (li
 0), .o (Ob.arr true 1 [])] 0 (.t (.f [0] [Ob.arr true 1 (List.map intC (List.map numD d.items))] (AV.sv (SV.one (AC.ref 0)))) .q)))) (by
  dsimp only [teasy, P_c_sPars, nthW, lc_sParsLa]
  with_reducible repeat' (first | apply And.intro | exact zR | (intro; skip))
  all_goals (try simp only [std, inj] at *)
  all_goals with_reducible repeat' apply And.intro
  all_goals (try (first | exact z | grind [snocI, snocS, rowSnoc])))
abbrev P_c_sForm (d : Datum) : Ct := ⟨72, [], [datumA d], [], .tup [li (formK d), lb (headK (formK d))]⟩
theorem c_sForm (d : Datum)  : P_c_sForm d := fnOK Tryz.call72 Tryz.func72 (.i (d.kind ≠ 1) (.f [] [] (AV.tup [li 6, lb false])) (.i (d.text.data.toList = [(113 : UInt8), (117 :
 UInt8), (111 : UInt8), (116 : UInt8), (101 : UInt8)]) (.f [] [] (AV.tup [li 1, lb false])) (.i (d.text.data.toList = [(115 : UInt8), (101 : UInt8), (116 : UInt8), (33 : UInt8)])
 (.f [] [] (AV.tup [li 4, lb true])) (.i (d.text.data.toList = [(108 : UInt8), (97 : UInt8), (109 : UInt8), (98 : UInt8), (100 : UInt8), (97 : UInt8)]) (.f [] [] (AV.tup [li 5, lb
 true])) (.i (d.text.data.toList = [(105 : UInt8), (102 : UInt8)]) (.f [] [] (AV.tup [li 7, lb false])) (.i (d.text.data.toList = [(98 : UInt8), (101 : UInt8), (103 : UInt8), (105
 : UInt8), (110 : UInt8)]) (.f [] [] (AV.tup [li 8, lb false])) (.i (d.text.data.toList = [(108 : UInt8), (111 : UInt8), (99 : UInt8), (97 : UInt8), (108 : UInt8)]) (.f [] []
 (AV.tup [li 9, lb true])) (.i (d.text.data.toList = [(114 : UInt8), (101 : UInt8), (115 : UInt8), (101 : UInt8), (116 : UInt8)]) (.f [] [] (AV.tup [li 10, lb false])) (.i
 (d.text.data.toList = [(115 : UInt8), (104 : UInt8), (105 : UInt8), (102 : UInt8), (116 : UInt8)]) (.f [] [] (AV.tup [li 11, lb true])) (.f [] [] (AV.tup [li 6, lb
 false]))))))))))) (by
  dsimp only [teasy, P_c_sForm]
  with_reducible repeat' (first | apply And.intro | exact zR | (intro; skip))
  all_goals (try simp only [std, inj] at *)
  all_goals with_reducible repeat' apply And.intro
  all_goals (try (first | exact z | grind [formK, headK, snocI, snocS, rowSnoc])))
abbrev P_c_sRead (d : Datum) : Ct := ⟨28, [], [datumA d], coreO (reaC d), .sv (coreR (reaC d) 0)⟩
def lc_sRead_sLa (d : Datum) : Lp Nat := .mk 121 0 (fun x => [(2, SV.one (AC.ptr 0 0)), (7, SV.one (AC.ptr 1 0)), (106, hs x 1), (107, hs x 2), (108, hs x 0)]) (fun x => [Ob.box
 [vI 0, vI 0, AC.val (Cell.lit (Value.slice none 0 0)), vI 0, vI 0, vS (ByteArray.mk #[]), AC.val (Cell.lit (Value.slice none 0 0)), AC.val (Cell.lit (Value.slice none 0 0))],
 Ob.box [ha x 3, ha x 4, AC.ref 2, vI 0, vI 0, vS (ByteArray.mk #[]), AC.val (Cell.lit (Value.slice none 0 0)), AC.ref 3], ho x 5, ho x 6]) (fun k => [.s (li (↑k : Int)), .s (ll
 (List.map datumC (List.drop (atK (formK (d.items.getD 0 default))) d.items))), .s (li (↑(List.drop (atK (formK (d.items.getD 0 default))) d.items).length : Int)), .a (vI (formK
 (d.items.getD 0 default))), .a (vI (nbrK (formK (d.items.getD 0 default)) d.items)), .o (Ob.arr true 1 (List.map intC (parK (formK (d.items.getD 0 default)) d.items))), .o (Ob.arr
 true 8 (List.map coreC (List.map reaC (List.take k (List.drop (atK (formK (d.items.getD 0 default))) d.items)))))]) (fun k => k ≤ (List.drop (atK (formK (d.items.getD 0 default)))
 d.items).length ∧ (List.drop (atK (formK (d.items.getD 0 default))) d.items).length ≤ 9223372036854775807 ∧ wD d ≤ 1048576) (fun k => (List.drop (atK (formK (d.items.getD 0
 default))) d.items).length - k) [.mk True (.exit 1) (fun x => [(2, SV.one (AC.ptr 0 0)), (7, SV.one (AC.ptr 1 0))]) (fun x => [Ob.box [vI 0, vI 0, AC.val (Cell.lit (Value.slice
 none 0 0)), vI 0, vI 0, vS (ByteArray.mk #[]), AC.val (Cell.lit (Value.slice none 0 0)), AC.val (Cell.lit (Value.slice none 0 0))], Ob.box [ha x 0, ha x 1, AC.ref 2, vI 0, vI 0,
 vS (ByteArray.mk #[]), AC.val (Cell.lit (Value.slice none 0 0)), AC.ref 3], ho x 2, ho x 3]) [.a (vI (formK (d.items.getD 0 default))), .a (vI (nbrK (formK (d.items.getD 0
 default)) d.items)), .o (Ob.arr true 1 (List.map intC (parK (formK (d.items.getD 0 default)) d.items))), .o (Ob.arr true 8 (List.map coreC (List.map reaC (List.drop (atK (formK
 (d.items.getD 0 default))) d.items))))]]
theorem Sc_sRead_sLa (d : Datum) (h : wD d ≤ 1048576) (ih : ∀ (z : Datum), z ∈ d.items → wD z ≤ 1048576 → OK (P_c_sRead z)) : Lp.Sem Tryz.prog (loopAt Tryz.f28 0) (lc_sRead_sLa d)
 := lpOK (fun k => .i ((↑k : Int) < (↑(List.drop (atK (formK (d.items.getD 0 default))) d.items).length : Int)) (.x (↑k : Int) (List.map datumC (List.drop (atK (formK (d.items.getD
 0 default))) d.items)) (datumF ((List.drop (atK (formK (d.items.getD 0 default))) d.items).getD k default)) (.w (.draw [(4, [5, 6, 7]), (5, [3, 13]), (7, [1])]) (.d [.rd]
 (P_c_sRead ((List.drop (atK (formK (d.items.getD 0 default))) d.items).getD k default)) (.p (((List.map coreC (List.map reaC (List.take k (List.drop (atK (formK (d.items.getD 0
 default))) d.items)))).length + 1) * 120 ≤ 140737488355328) (.r ((↑k : Int) + 1) (.g [0, 1, 2, 14] (k + 1) [.s (li ((↑k : Int) + 1)), .s (ll (List.map datumC (List.drop (atK
 (formK (d.items.getD 0 default))) d.items))), .s (li (↑(List.drop (atK (formK (d.items.getD 0 default))) d.items).length : Int)), .a (vI (formK (d.items.getD 0 default))), .a (vI
 (nbrK (formK (d.items.getD 0 default)) d.items)), .o (Ob.arr true 1 (List.map intC (parK (formK (d.items.getD 0 default)) d.items))), .o (Ob.arr true 8 (List.map coreC (List.map
 reaC (List.take k (List.drop (atK (formK (d.items.getD 0 default))) d.items))) ++ [coreF (reaC ((List.drop (atK (formK (d.items.getD 0 default))) d.items).getD k
 default))]))])))))) (.o 0 [0, 1, 2, 3] [.a (vI (formK (d.items.getD 0 default))), .a (vI (nbrK (formK (d.items.getD 0 default)) d.items)), .o (Ob.arr true 1 (List.map intC (parK
 (formK (d.items.getD 0 default)) d.items))), .o (Ob.arr true 8 (List.map coreC (List.map reaC (List.take k (List.drop (atK (formK (d.items.getD 0 default))) d.items)))))])) (by
  intro k h; try dsimp only [teasy, nthW, lc_sRead_sLa] at h ⊢
  have g1 := wD_eq d
  have g2 := @sumBy_mem _ wD d.items ((d.items.drop (atK (formK (d.items.getD 0 default)))).getD k default)
  with_reducible repeat' (first | apply And.intro | exact zR | exact ih | (intro; skip) | apply c_sPars | apply c_sCopyD | apply ih)
  all_goals (try simp only [std, inj] at *)
  all_goals with_reducible repeat' apply And.intro
  all_goals (try (first | with_reducible apply c_sPars | with_reducible apply c_sCopyD | with_reducible apply ih | (simp only [← List.map_append]; first | with_reducible apply c_sPars | with_reducible apply c_sCopyD | with_reducible apply ih)))
  all_goals (try (first | exact z | grind [take_get, getD_mem', snocI, snocS, rowSnoc, getD_mem'])))
theorem c_sRead_s (d : Datum) (h : wD d ≤ 1048576) (ih : ∀ z ∈ d.items, ∀ (h : wD z ≤ 1048576), P_c_sRead z)  : P_c_sRead d := fnOK Tryz.call28 Tryz.func28 (let v18 := (formK
 (d.items.getD 0 default)); let v1 := [Ob.arr true 1 (List.map intC (parK v18 d.items)), Ob.arr true 4 [], Ob.arr true 8 (List.map coreC (List.map reaC (List.drop (atK v18)
 d.items)))]; let v2 := (List.map datumC d.items); let v3 := (AV.sv (SV.agg [vI v18, vI (nbrK v18 d.items), AC.ref 0, vI 0, vI 0, vS (ByteArray.mk #[]), AC.ref 1, AC.ref 2])); let
 v4 := (d.items.getD 1 default); let v5 := (d.items.getD 0 default); let v6 := (AV.sv (SV.agg [vI 0, vI 0, AC.ref 0, vI 0, vI 0, vS (ByteArray.mk #[]), AC.ref 1, AC.ref 2])); let
 v7 := (List.take (v2.length - 2) (List.drop 2 v2)); let v8 := [Ob.arr true 1 [], Ob.arr true 4 [], Ob.arr true 8 []]; let v9 := ((0 : Int) ≤ 1 ∧ v2[1]? = some (datumF v4)); let
 v10 := [1, 2, 3, 4]; let v11 := [2, 4, 3]; let v12 := (Ob.arr true 8 []); let v13 := (li (↑(List.take (v2.length - 2) (List.drop 2 v2)).length : Int)); let v14 := (v7.length ≤
 9223372036854775807); let v15 := (List.take (v2.length - 1) (List.drop 1 v2)); let v16 := (Sc_sRead_sLa d h ih); let v17 := [3, 4, 5]; let v19 := (lc_sRead_sLa d); let v20 :=
 (Ob.arr true 1 []); let v21 := ((0 : Int) ≤ 2); let v22 := (li (↑(List.take (v2.length - 1) (List.drop 1 v2)).length : Int)); .i (d.kind ≠ 0) (.c [.rd] (c_sNbr d) (.i (0 ≤ numD d)
 (.w (.ghost (.nilbox 1 2 true 1)) (.w (.ghost (.nilbox 1 6 true 4)) (.w (.ghost (.nilbox 1 7 true 8)) (.f [2, 3, 4] v8 (AV.sv (SV.agg [vI 2, vI (numD d), AC.ref 0, vI 0, vI 0, vS
 (ByteArray.mk #[]), AC.ref 1, AC.ref 2])))))) (.w (.draw []) (.c [] c_sPrimitiveNames (.c [.rd, .rd] (c_sIdx primNames d.text) (.i (0 ≤ idxL primNames d.text) (.i (d.kind = 1) (.w
 (.ghost (.nilbox 1 2 true 1)) (.w (.ghost (.nilbox 1 6 true 4)) (.w (.ghost (.nilbox 1 7 true 8)) (.f v17 v8 (AV.sv (SV.agg [vI 3, vI (idxL primNames d.text), AC.ref 0, vI 0, vI
 0, vS (ByteArray.mk #[]), AC.ref 1, AC.ref 2])))))) (.w (.ghost (.nilbox 1 2 true 1)) (.w (.ghost (.nilbox 1 6 true 4)) (.w (.ghost (.nilbox 1 7 true 8)) (.f v17 v8 v6))))) (.y
 false (.w (.ghost (.nilbox 1 2 true 1)) (.w (.ghost (.nilbox 1 6 true 4)) (.w (.ghost (.nilbox 1 7 true 8)) (.f v17 v8 v6))))))))))) (.z datumC d.items (.i ((↑(List.map datumC
 d.items).length : Int) = 0) (.w (.ghost (.nilbox 1 2 true 1)) (.w (.ghost (.nilbox 1 6 true 4)) (.w (.ghost (.nilbox 1 7 true 8)) (.f [2, 3, 4] v8 v6)))) (.w (.cells (datumF v5))
 (.p ((0 : Int) ≤ 0 ∧ v2[0]? = some (datumF v5)) (.c [.rd] (c_sForm v5) (.i (formK v5 = 6) (.p ((0 : Int) ≤ 0) (.p (0 ≤ v2.length ∧ v2.length ≤ v2.length ∧ ∀ (e : List Cell), e ∈
 List.map datumC d.items → e.length = 4) (.h ((List.take (v2.length - 0) (List.drop 0 v2)).length ≤ 9223372036854775807) (.w (.ghost (.nilbox 2 2 true 1)) (.w (.ghost (.nilbox 2 7
 true 8)) (.l v19 v16 v10 [.s (li 0), .s (ll (List.take (v2.length - 0) (List.drop 0 v2))), .s (li (↑(List.take (v2.length - 0) (List.drop 0 v2)).length : Int)), .a (vI (formK
 v5)), .a (vI 0), .o v20, .o v12] 0 (.t (.w (.ghost (.nilbox 0 6 true 4)) (.f v11 v1 v3)) .q))))))) (.i (formK v5 = 1) (.z datumC d.items (.i ((↑(List.map datumC d.items).length :
 Int) ≠ 2) (.w (.ghost (.nilbox 1 2 true 1)) (.w (.ghost (.nilbox 1 6 true 4)) (.w (.ghost (.nilbox 1 7 true 8)) (.f v17 v8 v6)))) (.w (.cells (datumF v4)) (.p v9 (.d [.rd]
 (P_c_sCopyD v4) (.w (.ghost (.nilbox 1 2 true 1)) (.w (.ghost (.nilbox 1 7 true 8)) (.f [4, 3, 5] [Ob.arr true 1 [], Ob.arr true 4 (List.map datumC v4.items), Ob.arr true 8 []]
 (AV.sv (SV.agg [vI (formK v5), vI 0, AC.ref 0, vI v4.kind, vI v4.number, vS v4.text, AC.ref 1, AC.ref 2])))))))))) (.b (headK (formK v5)) (.z datumC d.items (.i ((↑(List.map
 datumC d.items).length : Int) < 2) (.w (.ghost (.nilbox 1 2 true 1)) (.w (.ghost (.nilbox 1 6 true 4)) (.w (.ghost (.nilbox 1 7 true 8)) (.f v17 v8 v6)))) (.i (formK v5 = 4) (.w
 (.cells (datumF v4)) (.p v9 (.c [.rd] (c_sNbr v4) (.p v21 (.p (2 ≤ v2.length ∧ v2.length ≤ v2.length ∧ ∀ (e : List Cell), e ∈ List.map datumC d.items → e.length = 4) (.h v14 (.w
 (.ghost (.nilbox 2 2 true 1)) (.w (.ghost (.nilbox 2 7 true 8)) (.l v19 v16 v10 [.s (li 0), .s (ll v7), .s v13, .a (vI (formK v5)), .a (vI (numD v4)), .o v20, .o v12] 0 (.t (.w
 (.ghost (.nilbox 0 6 true 4)) (.f v11 v1 v3)) .q)))))))))) (.i (formK v5 = 11) (.w (.cells (datumF v4)) (.p v9 (.c [.rd] (c_sNbr v4) (.p v21 (.p (2 ≤ v2.length ∧ v2.length ≤
 v2.length ∧ ∀ (e : List Cell), e ∈ List.map datumC d.items → e.length = 4) (.h v14 (.w (.ghost (.nilbox 2 7 true 8)) (.l v19 v16 v10 [.s (li 0), .s (ll v7), .s v13, .a (vI (formK
 v5)), .a (vI 0), .o (Ob.arr true 1 [[cI (numD v4)]]), .o v12] 0 (.t (.w (.ghost (.nilbox 0 6 true 4)) (.f v11 v1 v3)) .q))))))))) (.b (headK (formK v5)) (.w (.cells (datumF v4))
 (.p v9 (.d [.rd] (P_c_sPars v4) (.p v21 (.p (2 ≤ v2.length ∧ v2.length ≤ v2.length ∧ ∀ (e : List Cell), e ∈ List.map datumC d.items → e.length = 4) (.h v14 (.w (.ghost (.nilbox 2
 7 true 8)) (.l v19 v16 v10 [.s (li 0), .s (ll v7), .s v13, .a (vI (formK v5)), .a (vI 0), .o (Ob.arr true 1 (List.map intC (List.map numD v4.items))), .o v12] 0 (.t (.w (.ghost
 (.nilbox 0 6 true 4)) (.f v11 v1 v3)) .q))))))))) (.p ((0 : Int) ≤ 1) (.p (1 ≤ v2.length ∧ v2.length ≤ v2.length ∧ ∀ (e : List Cell), e ∈ List.map datumC d.items → e.length = 4)
 (.h (v15.length ≤ 9223372036854775807) (.w (.ghost (.nilbox 2 2 true 1)) (.w (.ghost (.nilbox 2 7 true 8)) (.l v19 v16 v10 [.s (li 0), .s (ll v15), .s v22, .a (vI (formK v5)), .a
 (vI 0), .o v20, .o v12] 0 (.t (.w (.ghost (.nilbox 0 6 true 4)) (.f v11 v1 v3)) .q)))))))))))) (.y false (.i (formK v5 = 4) (.w (.cells (datumF v4)) (.p v9 (.c [.rd] (c_sNbr v4)
 (.p v21 (.p (2 ≤ v2.length ∧ v2.length ≤ v2.length ∧ ∀ (e : List Cell), e ∈ List.map datumC d.items → e.length = 4) (.h v14 (.w (.ghost (.nilbox 2 2 true 1)) (.w (.ghost (.nilbox
 2 7 true 8)) (.l v19 v16 v10 [.s (li 0), .s (ll v7), .s v13, .a (vI (formK v5)), .a (vI (numD v4)), .o v20, .o v12] 0 (.t (.w (.ghost (.nilbox 0 6 true 4)) (.f v11 v1 v3))
 .q)))))))))) (.i (formK v5 = 11) (.w (.cells (datumF v4)) (.p v9 (.c [.rd] (c_sNbr v4) (.p v21 (.p (2 ≤ v2.length ∧ v2.length ≤ v2.length ∧ ∀ (e : List Cell), e ∈ List.map datumC
 d.items → e.length = 4) (.h v14 (.w (.ghost (.nilbox 2 7 true 8)) (.l v19 v16 v10 [.s (li 0), .s (ll v7), .s v13, .a (vI (formK v5)), .a (vI 0), .o (Ob.arr true 1 [[cI (numD
 v4)]]), .o v12] 0 (.t (.w (.ghost (.nilbox 0 6 true 4)) (.f v11 v1 v3)) .q))))))))) (.b (headK (formK v5)) (.w (.cells (datumF v4)) (.p v9 (.d [.rd] (P_c_sPars v4) (.p v21 (.p (2
 ≤ v2.length ∧ v2.length ≤ v2.length ∧ ∀ (e : List Cell), e ∈ List.map datumC d.items → e.length = 4) (.h v14 (.w (.ghost (.nilbox 2 7 true 8)) (.l v19 v16 v10 [.s (li 0), .s (ll
 v7), .s v13, .a (vI (formK v5)), .a (vI 0), .o (Ob.arr true 1 (List.map intC (List.map numD v4.items))), .o v12] 0 (.t (.w (.ghost (.nilbox 0 6 true 4)) (.f v11 v1 v3))
 .q))))))))) (.p ((0 : Int) ≤ 1) (.p (1 ≤ v2.length ∧ v2.length ≤ v2.length ∧ ∀ (e : List Cell), e ∈ List.map datumC d.items → e.length = 4) (.h (v15.length ≤ 9223372036854775807)
 (.w (.ghost (.nilbox 2 2 true 1)) (.w (.ghost (.nilbox 2 7 true 8)) (.l v19 v16 v10 [.s (li 0), .s (ll v15), .s v22, .a (vI (formK v5)), .a (vI 0), .o v20, .o v12] 0 (.t (.w
 (.ghost (.nilbox 0 6 true 4)) (.f v11 v1 v3)) .q)))))))))))))))))))) (by
  dsimp only [teasy, P_c_sRead, nthW, lc_sRead_sLa]
  have g1 := wD_eq d
  have e2 : ∀ j, j < d.items.length → wD (d.items.getD j default) ≤ wD d := fun j hj => by have := @sumBy_mem _ wD d.items _ (getD_mem' hj); omega
  have g2 := @rea_var d
  have g3 := @rea_prim d
  have g4 := @rea_nil d
  have g5 := @rea_emp d
  have g6 := @rea_quo d
  have g7 := @rea_quo0 d
  have g8 := @rea_bad d
  have g9 := @rea_form d
  have g10 := @par_11k (formK (d.items.getD 0 default)) d.items
  with_reducible repeat' (first | apply And.intro | exact zR | exact ih | (intro; skip) | apply c_sPars | apply c_sCopyD)
  all_goals (try simp only [std, inj] at *)
  all_goals with_reducible repeat' apply And.intro
  all_goals (try (first | with_reducible apply c_sPars | with_reducible apply c_sCopyD | with_reducible apply ih | (simp only [← List.map_append]; first | with_reducible apply c_sPars | with_reducible apply c_sCopyD | with_reducible apply ih)))
  all_goals (try (first | exact z | grind [parK, nbrK, atK, headK, lstD, snocI, snocS, rowSnoc])))
theorem c_sRead (d : Datum) : ∀ (h : wD d ≤ 1048576), P_c_sRead d := Datum.ind (P := fun d => ∀ (h : wD d ≤ 1048576), P_c_sRead d) (fun d ih h => c_sRead_s d h ih) d
def nvD (d : Datum) : Int := if vrB d = true then numV (tlS d.text) else 0
theorem nv_num {d : Datum} (h : 0 ≤ numD d) : nvD d = numD d := by
  unfold numD at h ⊢; unfold nvD
  split at h
  · rename_i h1; rw [if_pos h1.1, if_pos h1]
  · omega
abbrev P_c_iNbr (d : Datum) : Ct := ⟨81, [], [datumA d], [], .tup [li (nvD d), lb (decide (0 ≤ numD d))]⟩
theorem c_iNbr (d : Datum)  : P_c_iNbr d := fnOK Tryz.call81 Tryz.func81 (.i (d.kind ≠ 1) (.y true (.y true (.f [] [] (AV.tup [li 0, lb false])))) (.h (d.text.data.toList.length ≤
 9223372036854775807) (.i ((↑d.text.data.toList.length : Int) < 2) (.y true (.f [] [] (AV.tup [li 0, lb false]))) (.p ((0 : Int) ≤ 0 ∧ 0 < d.text.data.toList.length) (.i
 ((↑(d.text.data.toList.getD 0 (0 : UInt8)).toNat : Int) ≠ 118) (.f [] [] (AV.tup [li 0, lb false])) (.p ((0 : Int) ≤ 1) (.p (1 ≤ d.text.data.toList.length ∧
 d.text.data.toList.length ≤ d.text.data.toList.length) (.c [.rd] (c_iPNum (ByteArray.mk (List.take (d.text.data.toList.length - 1) (List.drop 1 d.text.data.toList)).toArray)) (.b
 (isNum (ByteArray.mk (List.take (d.text.data.toList.length - 1) (List.drop 1 d.text.data.toList)).toArray)) (.i (0 ≤ numV (ByteArray.mk (List.take (d.text.data.toList.length - 1)
 (List.drop 1 d.text.data.toList)).toArray)) (.f [] [] (AV.tup [li (numV (ByteArray.mk (List.take (d.text.data.toList.length - 1) (List.drop 1 d.text.data.toList)).toArray)), lb
 (decide (numV (ByteArray.mk (List.take (d.text.data.toList.length - 1) (List.drop 1 d.text.data.toList)).toArray) ≤ 99999))])) (.f [] [] (AV.tup [li (numV (ByteArray.mk (List.take
 (d.text.data.toList.length - 1) (List.drop 1 d.text.data.toList)).toArray)), lb false]))) (.y false (.f [] [] (AV.tup [li (numV (ByteArray.mk (List.take (d.text.data.toList.length
 - 1) (List.drop 1 d.text.data.toList)).toArray)), lb false])))))))))))) (by
  dsimp only [teasy, P_c_iNbr]
  with_reducible repeat' (first | apply And.intro | exact zR | (intro; skip) | apply c_iPNum)
  all_goals (try simp only [std, inj] at *)
  all_goals with_reducible repeat' apply And.intro
  all_goals (try (first | with_reducible apply c_iPNum | (simp only [← List.map_append]; first | with_reducible apply c_iPNum)))
  all_goals (try (first | exact z | grind [numD, nvD, vrB, tlS, snocI, snocS, rowSnoc])))
def nbB (d : Datum) : Bool := decide (d.kind = 0) && d.items.all (fun x => decide (0 ≤ numD x))
def nbL (d : Datum) : List Int := if nbB d = true then d.items.map numD else []
abbrev P_c_iNbrs (d : Datum) : Ct := ⟨84, [], [datumA d], [.arr true 1 ((nbL d).map intC)], .tup [.one (.ref 0), lb (nbB d)]⟩
def lc_iNbrsLa (d : Datum) : Lp Nat := .mk 32 0 (fun x => [(4, SV.one (AC.ref 0)), (13, ll (List.map datumC d.items)), (14, li (↑(List.map datumC d.items).length : Int)), (15, hs x
 0)]) (fun x => [ho x 1]) (fun k => [.s (li (↑k : Int)), .o (Ob.arr true 1 (List.map intC (List.map numD (List.take k d.items))))]) (fun k => k ≤ d.items.length ∧ d.items.length ≤
 9223372036854775807 ∧ ((List.take k d.items).all fun x => decide (0 ≤ numD x)) = true) (fun k => d.items.length - k) [.mk ((d.items.all fun x => decide (0 ≤ numD x)) = true)
 (.exit 0) (fun x => [(4, SV.one (AC.ref 0))]) (fun x => [ho x 0]) [.o (Ob.arr true 1 (List.map intC (List.map numD d.items)))], .mk ((d.items.all fun x => decide (0 ≤ numD x)) =
 false) .ret (fun x => [(2, hs x 0), (3, hs x 1)]) (fun x => []) [.s (SV.one (AC.val (Cell.lit (Value.slice none 0 0)))), .s (lb false)]]
theorem Sc_iNbrsLa (d : Datum) (h : wD d ≤ 1048576) : Lp.Sem Tryz.prog (loopAt Tryz.f84 0) (lc_iNbrsLa d) := lpOK (fun k => .i ((↑k : Int) < (↑(List.map datumC d.items).length :
 Int)) (.x (↑k : Int) (List.map datumC d.items) (datumF (d.items.getD k default)) (.c [.rd] (c_iNbr (d.items.getD k default)) (.b (!decide (0 ≤ numD (d.items.getD k default))) (.o
 1 [] [.s (SV.one (AC.val (Cell.lit (Value.slice none 0 0)))), .s (lb false)]) (.p (((List.map intC (List.map numD (List.take k d.items))).length + 1) * 8 ≤ 140737488355328) (.r
 ((↑k : Int) + 1) (.g [3] (k + 1) [.s (li ((↑k : Int) + 1)), .o (Ob.arr true 1 (List.map intC (List.map numD (List.take k d.items)) ++ [[cI (nvD (d.items.getD k
 default))]]))])))))) (.o 0 [0] [.o (Ob.arr true 1 (List.map intC (List.map numD (List.take k d.items))))])) (by
  intro k h; try dsimp only [teasy, nthW, lc_iNbrsLa] at h ⊢
  have g1 := numD_snoc d.items k
  have g2 := wD_eq d
  have g3 := numD_le (d.items.getD k default)
  have g4 := @nv_num (d.items.getD k default)
  with_reducible repeat' (first | apply And.intro | exact zR | (intro; skip))
  all_goals (try simp only [std, inj] at *)
  all_goals with_reducible repeat' apply And.intro
  all_goals (try (first | exact z | grind [take_get, snocI, snocS, rowSnoc])))
theorem c_iNbrs (d : Datum) (h : wD d ≤ 1048576)  : P_c_iNbrs d := fnOK Tryz.call84 Tryz.func84 (.i (d.kind ≠ 0) (.w (.ghost (.nilreg 2 true 1)) (.f [1] [Ob.arr true 1 []] (AV.tup
 [SV.one (AC.ref 0), lb false]))) (.z datumC d.items (.w (.ghost (.nilreg 4 true 1)) (.l (lc_iNbrsLa d) (Sc_iNbrsLa d h) [1] [.s (li 0), .o (Ob.arr true 1 [])] 0 (.t (.f [0]
 [Ob.arr true 1 (List.map intC (List.map numD d.items))] (AV.tup [SV.one (AC.ref 0), lb true])) (.t (.w (.ghost (.nilreg 2 true 1)) (.f [0] [Ob.arr true 1 []] (AV.tup [SV.one
 (AC.ref 0), lb false]))) .q)))))) (by
  dsimp only [teasy, P_c_iNbrs, nthW, lc_iNbrsLa]
  with_reducible repeat' (first | apply And.intro | exact zR | (intro; skip))
  all_goals (try simp only [std, inj] at *)
  all_goals with_reducible repeat' apply And.intro
  all_goals (try (first | exact z | grind [nbL, nbB, snocI, snocS, rowSnoc])))
def rdC (d : Datum) (q : Int) : Core := if (rdB d q).1 = true then reaC d else ⟨0, 0, [], lstD [], []⟩
theorem rdB_le : ∀ (d : Datum) (q : Int), 0 ≤ q → -1 ≤ (rdB d q).2 ∧ (rdB d q).2 ≤ q ∧ ((rdB d q).1 = true → 0 ≤ (rdB d q).2) := by
  refine Datum.ind fun d ih q hq => ?_
  rw [rdB_eq]
  have hs : ∀ (L : List Datum), (∀ x ∈ L, ∀ q, 0 ≤ q → -1 ≤ (rdB x q).2 ∧ (rdB x q).2 ≤ q ∧ ((rdB x q).1 = true → 0 ≤ (rdB x q).2)) → ∀ m, 0 ≤ m → -1 ≤ (scan rdB L m).2 ∧ (scan rdB L m).2 ≤ m ∧ ((scan rdB L m).1 = true → 0 ≤ (scan rdB L m).2) := by
    intro L; induction L with
    | nil => intro _ m hm; exact ⟨by show -1 ≤ m; omega, Int.le_refl _, fun _ => hm⟩
    | cons x r ihr =>
      intro hL m hm
      have h1 := hL x List.mem_cons_self m hm
      simp only [scan]
      split
      · rename_i e
        have h2 := ihr (fun y hy => hL y (List.mem_cons_of_mem _ hy)) (rdB x m).2 (h1.2.2 e)
        exact ⟨h2.1, by omega, h2.2.2⟩
      · exact ⟨h1.1, h1.2.1, fun e => Bool.noConfusion e⟩
  split
  · exact ⟨by show -1 ≤ q - 1; omega, by show q - 1 ≤ q; omega, fun e => Bool.noConfusion e⟩
  rename_i h1
  repeat' split
  · exact ⟨by show -1 ≤ q - 1; omega, by show q - 1 ≤ q; omega, fun e => by show 0 ≤ q - 1; omega⟩
  · exact ⟨by show -1 ≤ q - 1; omega, by show q - 1 ≤ q; omega, fun e => by show 0 ≤ q - 1; omega⟩
  · exact ⟨by show -1 ≤ q - 1; omega, by show q - 1 ≤ q; omega, fun e => by show 0 ≤ q - 1; omega⟩
  · exact ⟨by show -1 ≤ q - 1; omega, by show q - 1 ≤ q; omega, fun e => by show 0 ≤ q - 1; omega⟩
  · have := hs (d.items.drop (atK (formK (d.items.getD 0 default)))) (fun x hx => ih x (List.mem_of_mem_drop hx)) (q - 1) (by omega)
    exact ⟨this.1, by omega, this.2.2⟩
theorem rd_neg {d : Datum} {q : Int} (h : q - 1 < 0) : rdB d q = (false, q - 1) := by rw [rdB_eq, if_pos h]
theorem rd_symb {d : Datum} {q : Int} (h : ¬ q - 1 < 0) (h1 : d.kind = 1) : rdB d q = (decide (0 ≤ numD d ∨ 0 ≤ idxL primNames d.text), q - 1) := by rw [rdB_eq, if_neg h, if_pos h1]
theorem rd_non {d : Datum} {q : Int} (h : ¬ q - 1 < 0) (h1 : ¬ d.kind = 1) (h2 : ¬ d.kind = 0 ∨ (d.items.length : Int) = 0) : rdB d q = (false, q - 1) := by rw [rdB_eq, if_neg h, if_neg h1, if_pos h2]
theorem rd_bad {d : Datum} {q : Int} (h : ¬ q - 1 < 0) (h1 : d.kind = 0) (h2 : ¬ (d.items.length : Int) = 0) (h3 : hedB (formK (d.items.getD 0 default)) d.items = false) : rdB d q = (false, q - 1) := by
  rw [rdB_eq, if_neg h, if_neg (by omega), if_neg (by omega), if_pos h3]
theorem rd_quot {d : Datum} {q : Int} (h : ¬ q - 1 < 0) (h1 : d.kind = 0) (h2 : ¬ (d.items.length : Int) = 0) (h3 : formK (d.items.getD 0 default) = 1) (h4 : (d.items.length : Int) = 2) : rdB d q = (true, q - 1) := by
  rw [rdB_eq, if_neg h, if_neg (by omega), if_neg (by omega), if_neg (by rw [h3]; simp [hedB, h4]), if_pos h3]
theorem rd_go {d : Datum} {q : Int} (h : ¬ q - 1 < 0) (h1 : d.kind = 0) (h2 : ¬ (d.items.length : Int) = 0) (h3 : hedB (formK (d.items.getD 0 default)) d.items = true) (h4 : ¬ formK (d.items.getD 0 default) = 1) :
    rdB d q = scan rdB (d.items.drop (atK (formK (d.items.getD 0 default)))) (q - 1) := by
  rw [rdB_eq, if_neg h, if_neg (by omega), if_neg (by omega), if_neg (by rw [h3]; simp), if_neg h4]
theorem hed_1 {k : Int} {l : List Datum} (h : k = 1) (h1 : ¬ (l.length : Int) = 2) : hedB k l = false := by subst h; simp [hedB, h1]
theorem hed_4 {k : Int} {l : List Datum} (h : k = 4 ∨ k = 11) : hedB k l = (decide (1 < (l.length : Int)) && decide (0 ≤ numD (l.getD 1 default))) := by rcases h with rfl | rfl <;> rfl
theorem hed_5 {k : Int} {l : List Datum} (h : k = 5 ∨ k = 9) : hedB k l = (decide (1 < (l.length : Int)) && nbB (l.getD 1 default)) := by rcases h with rfl | rfl <;> rfl
theorem hed_7 {k : Int} {l : List Datum} (h : k = 6 ∨ k = 7 ∨ k = 8 ∨ k = 10) : hedB k l = true := by rcases h with rfl | rfl | rfl | rfl <;> rfl
theorem frm_no {d : Datum} (h : ¬ d.kind = 1) : formK d = 6 := by unfold formK; rw [if_neg h]
theorem frm_w {d : Datum} (h : d.kind = 1) : (tx d.text = [113, 117, 111, 116, 101] → formK d = 1) ∧ (tx d.text = [115, 101, 116, 33] → formK d = 4) ∧ (tx d.text = [108, 97, 109, 98, 100, 97] → formK d = 5) ∧ (tx d.text = [105, 102] → formK d = 7) ∧ (tx d.text = [98, 101, 103, 105, 110] → formK d = 8) ∧ (tx d.text = [108, 111, 99, 97, 108] → formK d = 9) ∧
    (tx d.text = [114, 101, 115, 101, 116] → formK d = 10) ∧ (tx d.text = [115, 104, 105, 102, 116] → formK d = 11) ∧
    (¬ tx d.text = [113, 117, 111, 116, 101] → ¬ tx d.text = [115, 101, 116, 33] → ¬ tx d.text = [108, 97, 109, 98, 100, 97] → ¬ tx d.text = [105, 102] → ¬ tx d.text = [98, 101, 103, 105, 110] → ¬ tx d.text = [108, 111, 99, 97, 108] → ¬ tx d.text = [114, 101, 115, 101, 116] → ¬ tx d.text = [115, 104, 105, 102, 116] → formK d = 6) := by
  unfold formK; rw [if_pos h]
  refine ⟨fun e => by rw [if_pos e], fun e => by simp [e], fun e => by simp [e], fun e => by simp [e], fun e => by simp [e], fun e => by simp [e], fun e => by simp [e], fun e => by simp [e], fun a b c d e f g h => by simp [a, b, c, d, e, f, g, h]⟩
theorem fK1 {d : Datum} (h : d.kind = 1 := by with_reducible assumption) (h1 : d.text.data.toList = [113, 117, 111, 116, 101] := by with_reducible assumption) : formK d = 1 := (frm_w h).1 h1
theorem fK4 {d : Datum} (h : d.kind = 1 := by with_reducible assumption) (h1 : d.text.data.toList = [115, 101, 116, 33] := by with_reducible assumption) : formK d = 4 := (frm_w h).2.1 h1
theorem fK5 {d : Datum} (h : d.kind = 1 := by with_reducible assumption) (h1 : d.text.data.toList = [108, 97, 109, 98, 100, 97] := by with_reducible assumption) : formK d = 5 := (frm_w h).2.2.1 h1
theorem fK7 {d : Datum} (h : d.kind = 1 := by with_reducible assumption) (h1 : d.text.data.toList = [105, 102] := by with_reducible assumption) : formK d = 7 := (frm_w h).2.2.2.1 h1
theorem fK8 {d : Datum} (h : d.kind = 1 := by with_reducible assumption) (h1 : d.text.data.toList = [98, 101, 103, 105, 110] := by with_reducible assumption) : formK d = 8 := (frm_w h).2.2.2.2.1 h1
theorem fK9 {d : Datum} (h : d.kind = 1 := by with_reducible assumption) (h1 : d.text.data.toList = [108, 111, 99, 97, 108] := by with_reducible assumption) : formK d = 9 := (frm_w h).2.2.2.2.2.1 h1
theorem fK10 {d : Datum} (h : d.kind = 1 := by with_reducible assumption) (h1 : d.text.data.toList = [114, 101, 115, 101, 116] := by with_reducible assumption) : formK d = 10 := (frm_w h).2.2.2.2.2.2.1 h1
theorem fK11 {d : Datum} (h : d.kind = 1 := by with_reducible assumption) (h1 : d.text.data.toList = [115, 104, 105, 102, 116] := by with_reducible assumption) : formK d = 11 := (frm_w h).2.2.2.2.2.2.2.1 h1
theorem fK6 {d : Datum} (h : d.kind = 1 := by with_reducible assumption) (h1 : ¬ d.text.data.toList = [113, 117, 111, 116, 101] := by with_reducible assumption) (h4 : ¬ d.text.data.toList = [115, 101, 116, 33] := by with_reducible assumption) (h5 : ¬ d.text.data.toList = [108, 97, 109, 98, 100, 97] := by with_reducible assumption) (h7 : ¬ d.text.data.toList = [105, 102] := by with_reducible assumption) (h8 : ¬ d.text.data.toList = [98, 101, 103, 105, 110] := by with_reducible assumption) (h9 : ¬ d.text.data.toList = [108, 111, 99, 97, 108] := by with_reducible assumption) (h10 : ¬ d.text.data.toList = [114, 101, 115, 101, 116] := by with_reducible assumption) (h11 : ¬ d.text.data.toList = [115, 104, 105, 102, 116] := by with_reducible assumption) : formK d = 6 := (frm_w h).2.2.2.2.2.2.2.2 h1 h4 h5 h7 h8 h9 h10 h11
theorem fK0 {d : Datum} (h : ¬ d.kind = 1 := by with_reducible assumption) : formK d = 6 := frm_no h
theorem hk4 {k : Int} (h : k = 4) : headK k = true := by rw [h]; rfl
theorem hk5 {k : Int} (h : k = 5) : headK k = true := by rw [h]; rfl
theorem hk9 {k : Int} (h : k = 9) : headK k = true := by rw [h]; rfl
theorem hk11 {k : Int} (h : k = 11) : headK k = true := by rw [h]; rfl
theorem lamloc {l : List UInt8} (h1 : l = [108, 97, 109, 98, 100, 97] := by with_reducible assumption) (h2 : l = [108, 111, 99, 97, 108] := by with_reducible assumption) : False := by subst h1; simp at h2
theorem loc2 {l : List UInt8} (h1 : l = [108, 111, 99, 97, 108] := by with_reducible assumption) (h2 : ¬ l = [108, 111, 99, 97, 108] := by with_reducible assumption) : False := h2 h1
theorem nv_a {d : Datum} (h : 0 ≤ numD d := by with_reducible assumption) : nvD d = numD d := nv_num h
theorem nb_a {d : Datum} (h : nbB d = true := by with_reducible assumption) : nbL d = d.items.map numD := if_pos h
theorem tk_d {α : Type} (l : List α) (n : Nat) : (l.drop n).take (l.length - n) = l.drop n := List.take_of_length_le (by rw [List.length_drop]; exact Nat.le_refl _)
theorem sc_t {b : Bool} (h : b = true := by with_reducible assumption) : true = b := h.symm
theorem sc_f {b : Bool} (h : b = false := by with_reducible assumption) : false = b := h.symm
abbrev nilR (d : Datum) (q : Int) : Prop := rdB d q = (false, q - 1) ∧ rdC d q = ⟨0, 0, [], ⟨0, 0, mkS [], []⟩, []⟩
theorem rdC_no {d : Datum} {q : Int} (h : rdB d q = (false, q - 1)) : nilR d q := ⟨h, by unfold rdC; rw [h]; rfl⟩
theorem rdC_yes {d : Datum} {q m : Int} (h : rdB d q = (true, m)) : rdC d q = reaC d := by unfold rdC; rw [h]; rfl
theorem x_num {d : Datum} {q : Int} (h : ¬ q - 1 < 0 := by with_reducible assumption) (h1 : d.kind = 1 := by with_reducible assumption) (h2 : 0 ≤ numD d := by with_reducible assumption) : rdB d q = (true, q - 1) ∧ rdC d q = ⟨2, numD d, [], ⟨0, 0, mkS [], []⟩, []⟩ := by
  have e : rdB d q = (true, q - 1) := by rw [rd_symb h h1]; simp [h2]
  exact ⟨e, by rw [rdC_yes e, rea_var (by omega) h2]; rfl⟩
theorem x_prim {d : Datum} {q : Int} (h : ¬ q - 1 < 0 := by with_reducible assumption) (h1 : d.kind = 1 := by with_reducible assumption) (h2 : ¬ 0 ≤ numD d := by with_reducible assumption) (h3 : 0 ≤ idxL primNames d.text := by with_reducible assumption) : rdB d q = (true, q - 1) ∧ rdC d q = ⟨3, idxL primNames d.text, [], ⟨0, 0, mkS [], []⟩, []⟩ := by
  have e : rdB d q = (true, q - 1) := by rw [rd_symb h h1]; simp [h3]
  exact ⟨e, by rw [rdC_yes e, rea_prim h1 h2 h3]; rfl⟩
theorem x_sym0 {d : Datum} {q : Int} (h : ¬ q - 1 < 0 := by with_reducible assumption) (h1 : d.kind = 1 := by with_reducible assumption) (h2 : ¬ 0 ≤ numD d := by with_reducible assumption) (h3 : idxL primNames d.text = -1 := by with_reducible assumption) : nilR d q :=
  rdC_no (by rw [rd_symb h h1, h3]; simp [h2])
theorem x_quo {d : Datum} {q : Int} (h : ¬ q - 1 < 0 := by with_reducible assumption) (h1 : d.kind = 0 := by with_reducible assumption) (h2 : ¬ (d.items.length : Int) = 0 := by with_reducible assumption) (h3 : formK (d.items.getD 0 default) = 1 := by exact fK1) (h4 : (d.items.length : Int) = 2 := by with_reducible assumption) : rdB d q = (true, q - 1) ∧ rdC d q = ⟨1, 0, [], d.items.getD 1 default, []⟩ := by
  have e := rd_quot h h1 h2 h3 h4
  exact ⟨e, by rw [rdC_yes e, rea_quo h1 h2 h3 h4]⟩
theorem x_quo0 {d : Datum} {q : Int} (h : ¬ q - 1 < 0 := by with_reducible assumption) (h1 : d.kind = 0 := by with_reducible assumption) (h2 : ¬ (d.items.length : Int) = 0 := by with_reducible assumption) (h3 : formK (d.items.getD 0 default) = 1 := by exact fK1) (h4 : ¬ (d.items.length : Int) = 2 := by with_reducible assumption) : nilR d q := rdC_no (rd_bad h h1 h2 (hed_1 h3 h4))
theorem x_hed {d : Datum} {q : Int} (h : ¬ q - 1 < 0 := by with_reducible assumption) (h1 : d.kind = 0 := by with_reducible assumption) (h2 : ¬ (d.items.length : Int) = 0 := by with_reducible assumption) (h3 : headK (formK (d.items.getD 0 default)) = true := by first | exact hk4 fK4 | exact hk5 fK5 | exact hk9 fK9 | exact hk11 fK11) (h4 : ¬ 1 < (d.items.length : Int) := by with_reducible assumption) : nilR d q := by
  refine rdC_no (rd_bad h h1 h2 ?_)
  simp only [headK, decide_eq_true_eq] at h3
  rcases h3 with h3 | h3 | h3 | h3
  · rw [hed_4 (.inl h3), decide_eq_false h4, Bool.false_and]
  · rw [hed_5 (.inl h3), decide_eq_false h4, Bool.false_and]
  · rw [hed_5 (.inr h3), decide_eq_false h4, Bool.false_and]
  · rw [hed_4 (.inr h3), decide_eq_false h4, Bool.false_and]
theorem x_no4 {d : Datum} {q : Int} (h : ¬ q - 1 < 0 := by with_reducible assumption) (h1 : d.kind = 0 := by with_reducible assumption) (h2 : ¬ (d.items.length : Int) = 0 := by with_reducible assumption) (h3 : formK (d.items.getD 0 default) = 4 ∨ formK (d.items.getD 0 default) = 11 := by first | exact .inl fK4 | exact .inr fK11) (h4 : ¬ 0 ≤ numD (d.items.getD 1 default) := by with_reducible assumption) : nilR d q := by
  refine rdC_no (rd_bad h h1 h2 ?_); rw [hed_4 h3, decide_eq_false h4, Bool.and_false]
theorem x_no5 {d : Datum} {q : Int} (h : ¬ q - 1 < 0 := by with_reducible assumption) (h1 : d.kind = 0 := by with_reducible assumption) (h2 : ¬ (d.items.length : Int) = 0 := by with_reducible assumption) (h3 : formK (d.items.getD 0 default) = 5 ∨ formK (d.items.getD 0 default) = 9 := by first | exact .inl fK5 | exact .inr fK9) (h4 : nbB (d.items.getD 1 default) = false := by with_reducible assumption) : nilR d q := by
  refine rdC_no (rd_bad h h1 h2 ?_); rw [hed_5 h3, h4, Bool.and_false]
abbrev goR (d : Datum) (q : Int) : Prop := rdB d q = scan rdB (d.items.drop (atK (formK (d.items.getD 0 default)))) (q - 1) ∧ ((scan rdB (d.items.drop (atK (formK (d.items.getD 0 default)))) (q - 1)).1 = false → rdC d q = ⟨0, 0, [], ⟨0, 0, mkS [], []⟩, []⟩) ∧
    ((scan rdB (d.items.drop (atK (formK (d.items.getD 0 default)))) (q - 1)).1 = true → rdC d q = ⟨formK (d.items.getD 0 default), nbrK (formK (d.items.getD 0 default)) d.items, parK (formK (d.items.getD 0 default)) d.items, ⟨0, 0, mkS [], []⟩, (d.items.drop (atK (formK (d.items.getD 0 default)))).map reaC⟩)
theorem x_go {d : Datum} {q : Int} (h : ¬ q - 1 < 0) (h1 : d.kind = 0) (h2 : ¬ (d.items.length : Int) = 0) (h3 : hedB (formK (d.items.getD 0 default)) d.items = true) (h4 : ¬ formK (d.items.getD 0 default) = 1) (h5 : ¬ (headK (formK (d.items.getD 0 default)) = true ∧ (d.items.length : Int) < 2) := by first | exact hk4 fK4 | exact hk5 fK5 | exact hk9 fK9 | exact hk11 fK11) : goR d q := by
  have e := rd_go h h1 h2 h3 h4
  exact ⟨e, fun f => by unfold rdC; rw [e, f]; rfl, fun f => by unfold rdC; rw [e, f, if_pos rfl, rea_form h1 h2 h4 h5]; rfl⟩
theorem x_go4 {d : Datum} {q : Int} (h : ¬ q - 1 < 0 := by with_reducible assumption) (h1 : d.kind = 0 := by with_reducible assumption) (h2 : ¬ (d.items.length : Int) = 0 := by with_reducible assumption) (h3 : formK (d.items.getD 0 default) = 4 ∨ formK (d.items.getD 0 default) = 11 := by first | exact .inl fK4 | exact .inr fK11) (h4 : 1 < (d.items.length : Int) := by with_reducible assumption) (h5 : 0 ≤ numD (d.items.getD 1 default) := by with_reducible assumption) : goR d q :=
  x_go h h1 h2 (by rw [hed_4 h3, decide_eq_true h4, decide_eq_true h5]; rfl) (by omega) (by omega)
theorem x_go5 {d : Datum} {q : Int} (h : ¬ q - 1 < 0 := by with_reducible assumption) (h1 : d.kind = 0 := by with_reducible assumption) (h2 : ¬ (d.items.length : Int) = 0 := by with_reducible assumption) (h3 : formK (d.items.getD 0 default) = 5 ∨ formK (d.items.getD 0 default) = 9 := by first | exact .inl fK5 | exact .inr fK9) (h4 : 1 < (d.items.length : Int) := by with_reducible assumption) (h5 : nbB (d.items.getD 1 default) = true := by with_reducible assumption) : goR d q :=
  x_go h h1 h2 (by rw [hed_5 h3, decide_eq_true h4, h5]; rfl) (by omega) (by omega)
theorem x_go7 {d : Datum} {q : Int} (h : ¬ q - 1 < 0 := by with_reducible assumption) (h1 : d.kind = 0 := by with_reducible assumption) (h2 : ¬ (d.items.length : Int) = 0 := by with_reducible assumption) (h3 : formK (d.items.getD 0 default) = 6 ∨ formK (d.items.getD 0 default) = 7 ∨ formK (d.items.getD 0 default) = 8 ∨ formK (d.items.getD 0 default) = 10 := by first | exact .inl fK6 | exact .inl fK0 | exact .inr (.inl fK7) | exact .inr (.inr (.inl fK8)) | exact .inr (.inr (.inr fK10))) : goR d q :=
  x_go h h1 h2 (hed_7 h3) (by omega) (by rintro ⟨a, _⟩; simp only [headK, decide_eq_true_eq] at a; omega)
theorem parts {k : Int} {l : List Datum} : (k = 4 → atK k = 2 ∧ nbrK k l = numD (l.getD 1 default) ∧ parK k l = []) ∧ (k = 5 → atK k = 2 ∧ nbrK k l = 0 ∧ parK k l = (l.getD 1 default).items.map numD) ∧ (k = 9 → atK k = 2 ∧ nbrK k l = 0 ∧ parK k l = (l.getD 1 default).items.map numD) ∧ (k = 11 → atK k = 2 ∧ nbrK k l = 0 ∧ parK k l = [numD (l.getD 1 default)]) ∧
    (k = 6 → atK k = 0 ∧ nbrK k l = 0 ∧ parK k l = []) ∧ (k = 7 → atK k = 1 ∧ nbrK k l = 0 ∧ parK k l = []) ∧ (k = 8 → atK k = 1 ∧ nbrK k l = 0 ∧ parK k l = []) ∧ (k = 10 → atK k = 1 ∧ nbrK k l = 0 ∧ parK k l = []) := by
  refine ⟨?_, ?_, ?_, ?_, ?_, ?_, ?_, ?_⟩ <;> (rintro rfl; exact ⟨rfl, rfl, rfl⟩)
theorem x_neg {d : Datum} {q : Int} (h : q - 1 < 0 := by with_reducible assumption) : nilR d q := rdC_no (rd_neg h)
theorem x_non {d : Datum} {q : Int} (h : ¬ q - 1 < 0 := by with_reducible assumption) (h1 : ¬ d.kind = 1 := by with_reducible assumption) (h2 : ¬ d.kind = 0 := by with_reducible assumption) : nilR d q := rdC_no (rd_non h h1 (.inl h2))
theorem x_emp {d : Datum} {q : Int} (h : ¬ q - 1 < 0 := by with_reducible assumption) (h1 : ¬ d.kind = 1 := by with_reducible assumption) (h2 : (d.items.length : Int) = 0 := by with_reducible assumption) : nilR d q := rdC_no (rd_non h h1 (.inr h2))
abbrev P_c_iRd (d : Datum) (q : Int) : Ct := ⟨33, [.box [vI q]], [datumA d, .one (.ptr 0 0)], .box [vI (rdB d q).2] :: coreO (rdC d q), .tup [coreR (rdC d q) 1, lb (rdB d q).1]⟩
def lc_iRd_sLb (d : Datum) (q : Int) : Lp Nat := .mk 201 1 (fun x => [(1, SV.one (AC.ptr 0 0)), (4, SV.one (AC.ptr 1 0)), (10, SV.one (AC.ptr 2 0)), (178, hs x 1), (179, hs x 2),
 (180, hs x 0)]) (fun x => [Ob.box [ha x 3], Ob.box [vI 0, vI 0, AC.val (Cell.lit (Value.slice none 0 0)), vI 0, vI 0, vS (ByteArray.mk #[]), AC.val (Cell.lit (Value.slice none 0
 0)), AC.val (Cell.lit (Value.slice none 0 0))], Ob.box [ha x 4, ha x 5, AC.ref 3, vI 0, vI 0, vS (ByteArray.mk #[]), AC.val (Cell.lit (Value.slice none 0 0)), AC.ref 4], ho x 6,
 ho x 7]) (fun k => [.s (li (↑k : Int)), .s (ll (List.map datumC (List.drop (atK (formK (d.items.getD 0 default))) d.items))), .s (li (↑(List.drop (atK (formK (d.items.getD 0
 default))) d.items).length : Int)), .a (vI (scan rdB (List.take k (List.drop (atK (formK (d.items.getD 0 default))) d.items)) (q - 1)).snd), .a (vI (formK (d.items.getD 0
 default))), .a (vI (nbrK (formK (d.items.getD 0 default)) d.items)), .o (Ob.arr true 1 (List.map intC (parK (formK (d.items.getD 0 default)) d.items))), .o (Ob.arr true 8
 (List.map coreC (List.map reaC (List.take k (List.drop (atK (formK (d.items.getD 0 default))) d.items)))))]) (fun k => k ≤ (List.drop (atK (formK (d.items.getD 0 default)))
 d.items).length ∧ (scan rdB (List.take k (List.drop (atK (formK (d.items.getD 0 default))) d.items)) (q - 1)).fst = true ∧ 0 ≤ (scan rdB (List.take k (List.drop (atK (formK
 (d.items.getD 0 default))) d.items)) (q - 1)).snd ∧ (scan rdB (List.take k (List.drop (atK (formK (d.items.getD 0 default))) d.items)) (q - 1)).snd ≤ 3000 ∧ wD d ≤ 1048576) (fun k
 => (List.drop (atK (formK (d.items.getD 0 default))) d.items).length - k) [.mk ((scan rdB (List.drop (atK (formK (d.items.getD 0 default))) d.items) (q - 1)).fst = true) (.exit 3)
 (fun x => [(4, SV.one (AC.ptr 1 0)), (10, SV.one (AC.ptr 2 0))]) (fun x => [Ob.box [ha x 0], Ob.box [vI 0, vI 0, AC.val (Cell.lit (Value.slice none 0 0)), vI 0, vI 0, vS
 (ByteArray.mk #[]), AC.val (Cell.lit (Value.slice none 0 0)), AC.val (Cell.lit (Value.slice none 0 0))], Ob.box [ha x 1, ha x 2, AC.ref 3, vI 0, vI 0, vS (ByteArray.mk #[]),
 AC.val (Cell.lit (Value.slice none 0 0)), AC.ref 4], ho x 3, ho x 4]) [.a (vI (scan rdB (List.drop (atK (formK (d.items.getD 0 default))) d.items) (q - 1)).snd), .a (vI (formK
 (d.items.getD 0 default))), .a (vI (nbrK (formK (d.items.getD 0 default)) d.items)), .o (Ob.arr true 1 (List.map intC (parK (formK (d.items.getD 0 default)) d.items))), .o (Ob.arr
 true 8 (List.map coreC (List.map reaC (List.drop (atK (formK (d.items.getD 0 default))) d.items))))], .mk ((scan rdB (List.drop (atK (formK (d.items.getD 0 default))) d.items) (q
 - 1)).fst = false) .ret (fun x => [(4, SV.one (AC.ptr 1 0)), (5, hs x 2)]) (fun x => [Ob.box [ha x 0], ho x 1]) [.a (vI (scan rdB (List.drop (atK (formK (d.items.getD 0 default)))
 d.items) (q - 1)).snd), .o (Ob.box [vI 0, vI 0, AC.val (Cell.lit (Value.slice none 0 0)), vI 0, vI 0, vS (mkS []), AC.val (Cell.lit (Value.slice none 0 0)), AC.val (Cell.lit
 (Value.slice none 0 0))]), .s (lb false)]]
def lc_iRd_sLa (d : Datum) (q : Int) : Lp Nat := .mk 201 1 (fun x => [(2, SV.one (AC.ptr 1 0)), (4, SV.one (AC.ptr 2 0)), (40, SV.one (AC.ref 3)), (41, li 14), (42, hs x 0)]) (fun
 x => [Ob.box [vI (q - 1)], Ob.box (vals (datumF d)), Ob.box [vI 0, vI 0, AC.val (Cell.lit (Value.slice none 0 0)), vI 0, vI 0, vS (ByteArray.mk #[]), AC.val (Cell.lit (Value.slice
 none 0 0)), AC.val (Cell.lit (Value.slice none 0 0))], Ob.arr true 1 (List.map strC primNames)]) (fun k => [.s (li (↑k : Int))]) (fun k => k ≤ 14 ∧ ¬d.text ∈ List.take k
 primNames) (fun k => 14 - k) [.mk (idxL primNames d.text = (-1 : Int)) (.exit 0) (fun x => [(4, SV.one (AC.ptr 1 0))]) (fun x => [Ob.box [vI (q - 1)], Ob.box [vI 0, vI 0, AC.val
 (Cell.lit (Value.slice none 0 0)), vI 0, vI 0, vS (ByteArray.mk #[]), AC.val (Cell.lit (Value.slice none 0 0)), AC.val (Cell.lit (Value.slice none 0 0))]]) [], .mk (0 ≤ idxL
 primNames d.text) .ret (fun x => [(4, SV.one (AC.ptr 1 0)), (5, hs x 1)]) (fun x => [Ob.box [vI (q - 1)], ho x 0]) [.o (Ob.box [vI 3, vI (idxL primNames d.text), AC.val (Cell.lit
 (Value.slice none 0 0)), vI 0, vI 0, vS (mkS []), AC.val (Cell.lit (Value.slice none 0 0)), AC.val (Cell.lit (Value.slice none 0 0))]), .s (lb true)]]
theorem Sc_iRd_sLb (d : Datum) (q : Int) (h : wD d ≤ 1048576 ∧ 0 ≤ q ∧ q ≤ 3000) (ih : ∀ (z : Datum), z ∈ d.items → ∀ (q : Int), wD z ≤ 1048576 ∧ 0 ≤ q ∧ q ≤ 3000 → OK (P_c_iRd z
 q)) : Lp.Sem Tryz.prog (loopAt Tryz.f33 1) (lc_iRd_sLb d q) := lpOK (fun k => .i ((↑k : Int) < (↑(List.drop (atK (formK (d.items.getD 0 default))) d.items).length : Int)) (.x (↑k
 : Int) (List.map datumC (List.drop (atK (formK (d.items.getD 0 default))) d.items)) (datumF ((List.drop (atK (formK (d.items.getD 0 default))) d.items).getD k default)) (.d [.rd,
 .ptr] (P_c_iRd ((List.drop (atK (formK (d.items.getD 0 default))) d.items).getD k default) (scan rdB (List.take k (List.drop (atK (formK (d.items.getD 0 default))) d.items)) (q -
 1)).snd) (.b (!(rdB ((List.drop (atK (formK (d.items.getD 0 default))) d.items).getD k default) (scan rdB (List.take k (List.drop (atK (formK (d.items.getD 0 default))) d.items))
 (q - 1)).snd).fst) (.o 1 [0, 1] [.a (vI (rdB ((List.drop (atK (formK (d.items.getD 0 default))) d.items).getD k default) (scan rdB (List.take k (List.drop (atK (formK
 (d.items.getD 0 default))) d.items)) (q - 1)).snd).snd), .o (Ob.box [vI 0, vI 0, AC.val (Cell.lit (Value.slice none 0 0)), vI 0, vI 0, vS (ByteArray.mk #[]), AC.val (Cell.lit
 (Value.slice none 0 0)), AC.val (Cell.lit (Value.slice none 0 0))]), .s (lb false)]) (.p (((List.map coreC (List.map reaC (List.take k (List.drop (atK (formK (d.items.getD 0
 default))) d.items)))).length + 1) * 120 ≤ 140737488355328) (.r ((↑k : Int) + 1) (.g [0, 1, 2, 3, 12] (k + 1) [.s (li ((↑k : Int) + 1)), .s (ll (List.map datumC (List.drop (atK
 (formK (d.items.getD 0 default))) d.items))), .s (li (↑(List.drop (atK (formK (d.items.getD 0 default))) d.items).length : Int)), .a (vI (rdB ((List.drop (atK (formK (d.items.getD
 0 default))) d.items).getD k default) (scan rdB (List.take k (List.drop (atK (formK (d.items.getD 0 default))) d.items)) (q - 1)).snd).snd), .a (vI (formK (d.items.getD 0
 default))), .a (vI (nbrK (formK (d.items.getD 0 default)) d.items)), .o (Ob.arr true 1 (List.map intC (parK (formK (d.items.getD 0 default)) d.items))), .o (Ob.arr true 8
 (List.map coreC (List.map reaC (List.take k (List.drop (atK (formK (d.items.getD 0 default))) d.items))) ++ [coreF (rdC ((List.drop (atK (formK (d.items.getD 0 default)))
 d.items).getD k default) (scan rdB (List.take k (List.drop (atK (formK (d.items.getD 0 default))) d.items)) (q - 1)).snd)]))])))))) (.o 0 [0, 1, 2, 3, 4] [.a (vI (scan rdB
 (List.take k (List.drop (atK (formK (d.items.getD 0 default))) d.items)) (q - 1)).snd), .a (vI (formK (d.items.getD 0 default))), .a (vI (nbrK (formK (d.items.getD 0 default))
 d.items)), .o (Ob.arr true 1 (List.map intC (parK (formK (d.items.getD 0 default)) d.items))), .o (Ob.arr true 8 (List.map coreC (List.map reaC (List.take k (List.drop (atK (formK
 (d.items.getD 0 default))) d.items)))))])) (by
  intro k h; try dsimp only [teasy, nthW, lc_iRd_sLb] at h ⊢
  have g1 := wD_eq d
  have g2 := @sumBy_mem _ wD d.items ((d.items.drop (atK (formK (d.items.getD 0 default)))).getD k default)
  have g3 := rdB_le ((d.items.drop (atK (formK (d.items.getD 0 default)))).getD k default) (scan rdB ((d.items.drop (atK (formK (d.items.getD 0 default)))).take k) (q - 1)).2 h.2.2.1
  have mem : (k : Int) < ((d.items.drop (atK (formK (d.items.getD 0 default)))).length : Nat) → (d.items.drop (atK (formK (d.items.getD 0 default)))).getD k default ∈ d.items := fun a => List.mem_of_mem_drop (getD_mem' (by omega))
  have s1 : (k : Int) < ((d.items.drop (atK (formK (d.items.getD 0 default)))).length : Nat) → scan rdB ((d.items.drop (atK (formK (d.items.getD 0 default)))).take (k + 1)) (q - 1) = rdB ((d.items.drop (atK (formK (d.items.getD 0 default)))).getD k default) (scan rdB ((d.items.drop (atK (formK (d.items.getD 0 default)))).take k) (q - 1)).2 := fun a => scan_step rdB (by omega) _ h.2.1
  have s2 : (k : Int) < ((d.items.drop (atK (formK (d.items.getD 0 default)))).length : Nat) → (rdB ((d.items.drop (atK (formK (d.items.getD 0 default)))).getD k default) (scan rdB ((d.items.drop (atK (formK (d.items.getD 0 default)))).take k) (q - 1)).2).1 = false → scan rdB (d.items.drop (atK (formK (d.items.getD 0 default)))) (q - 1) = rdB ((d.items.drop (atK (formK (d.items.getD 0 default)))).getD k default) (scan rdB ((d.items.drop (atK (formK (d.items.getD 0 default)))).take k) (q - 1)).2 := fun a b => scan_stop rdB (by omega) _ h.2.1 b
  have s3 : (rdB ((d.items.drop (atK (formK (d.items.getD 0 default)))).getD k default) (scan rdB ((d.items.drop (atK (formK (d.items.getD 0 default)))).take k) (q - 1)).2).1 = true → rdC ((d.items.drop (atK (formK (d.items.getD 0 default)))).getD k default) (scan rdB ((d.items.drop (atK (formK (d.items.getD 0 default)))).take k) (q - 1)).2 = reaC ((d.items.drop (atK (formK (d.items.getD 0 default)))).getD k default) := fun a => if_pos a
  have ld : (d.items.drop (atK (formK (d.items.getD 0 default)))).length ≤ d.items.length := by rw [List.length_drop]; omega
  have lt : ((d.items.drop (atK (formK (d.items.getD 0 default)))).take k).length ≤ k := by rw [List.length_take]; omega
  have tk : ¬ (k : Int) < ((d.items.drop (atK (formK (d.items.getD 0 default)))).length : Nat) → (d.items.drop (atK (formK (d.items.getD 0 default)))).take k = (d.items.drop (atK (formK (d.items.getD 0 default)))) := fun a => List.take_of_length_le (by omega)
  have ta : (k : Int) < ((d.items.drop (atK (formK (d.items.getD 0 default)))).length : Nat) → (d.items.drop (atK (formK (d.items.getD 0 default)))).take (k + 1) = (d.items.drop (atK (formK (d.items.getD 0 default)))).take k ++ [(d.items.drop (atK (formK (d.items.getD 0 default)))).getD k default] := fun a => take_get (by omega)
  with_reducible repeat' (first | apply And.intro | exact zR | exact ih | (intro; skip) | apply c_iNbrs | apply c_iCopyDatum)
  all_goals (try simp only [std, inj] at *)
  all_goals with_reducible repeat' apply And.intro
  all_goals (try (first | with_reducible apply c_iNbrs | with_reducible apply c_iCopyDatum | with_reducible apply ih | (simp only [← List.map_append]; first | with_reducible apply c_iNbrs | with_reducible apply c_iCopyDatum | with_reducible apply ih)))
  all_goals (try simp only [Classical.not_not, Bool.not_eq_true', Bool.not_eq_false', decide_eq_true_eq, decide_eq_false_iff_not] at *)
  all_goals first
    | exact True.intro | with_reducible rfl | with_reducible assumption | with_reducible exact datumGet (by omega) | with_reducible exact mem (by with_reducible assumption) | omega
    | (have := g2 (mem (by with_reducible assumption)); omega)
    | (rw [s2 (by with_reducible assumption) (by with_reducible assumption)]; done) | (rw [s2 (by with_reducible assumption) (by with_reducible assumption)]; with_reducible assumption)
    | (rw [s1 (by with_reducible assumption)]; done) | (rw [s1 (by with_reducible assumption)]; first | with_reducible assumption | exact g3.2.2 (by with_reducible assumption) | (have := g3; omega))
    | (rw [s3 (by with_reducible assumption), ta (by with_reducible assumption), List.map_append, List.map_append, ← coreC_eq]; rfl)
    | (rw [tk (by with_reducible assumption)]; done)
    | (have := h.2.1; rw [tk (by with_reducible assumption)] at this; exact this))
theorem Sc_iRd_sLa (d : Datum) (q : Int) (h : wD d ≤ 1048576 ∧ 0 ≤ q ∧ q ≤ 3000) (ih : ∀ (z : Datum), z ∈ d.items → ∀ (q : Int), wD z ≤ 1048576 ∧ 0 ≤ q ∧ q ≤ 3000 → OK (P_c_iRd z
 q)) : Lp.Sem Tryz.prog (loopAt Tryz.f33 0) (lc_iRd_sLa d q) := lpOK (fun k => .i ((↑k : Int) < 14) (.p (0 ≤ (↑k : Int) ∧ (↑k : Int).toNat < 14) (.w (.cells (strC (primNames.getD
 (↑k : Int).toNat default))) (.p ((List.map strC primNames)[(↑k : Int).toNat]? = some [cS (primNames.getD (↑k : Int).toNat default)]) (.i ((primNames.getD (↑k : Int).toNat
 default).data.toList = d.text.data.toList) (.o 1 [0, 2] [.o (Ob.box [vI 3, vI (↑k : Int), AC.val (Cell.lit (Value.slice none 0 0)), vI 0, vI 0, vS (ByteArray.mk #[]), AC.val
 (Cell.lit (Value.slice none 0 0)), AC.val (Cell.lit (Value.slice none 0 0))]), .s (lb true)]) (.r ((↑k : Int) + 1) (.g [0, 1, 2, 3] (k + 1) [.s (li ((↑k : Int) + 1))])))))) (.o 0
 [0, 2] [])) (by
  intro k h; try dsimp only [teasy, nthW, lc_iRd_sLa] at h ⊢
  have g1 := @idx_at primNames d.text k
  have g2 := @idx_no primNames d.text
  have e : primNames.length = 14 := rfl
  have gk : (k : Int) < 14 → (primNames.map strC)[k]? = some [cS (primNames.getD k default)] := fun a => getC (by rw [e]; omega) rfl
  with_reducible repeat' (first | apply And.intro | exact zR | exact ih | (intro; skip) | apply c_iNbrs | apply c_iCopyDatum)
  all_goals (try simp only [std, inj] at *)
  all_goals with_reducible repeat' apply And.intro
  all_goals (try (first | with_reducible apply c_iNbrs | with_reducible apply c_iCopyDatum | with_reducible apply ih | (simp only [← List.map_append]; first | with_reducible apply c_iNbrs | with_reducible apply c_iCopyDatum | with_reducible apply ih)))
  all_goals (try (first | exact zw | grind [take_get, bytes_ext, snocI, snocS, rowSnoc])))
theorem c_iRd_s (d : Datum) (q : Int) (h : wD d ≤ 1048576 ∧ 0 ≤ q ∧ q ≤ 3000) (ih : ∀ z ∈ d.items, ∀ (q : Int) (h : wD z ≤ 1048576 ∧ 0 ≤ q ∧ q ≤ 3000), P_c_iRd z q)  : P_c_iRd d q
 := fnOK Tryz.call33 Tryz.func33 (let v26 := (formK (d.items.getD 0 default)); let v1 := [Ob.box [vI (scan rdB (List.drop (atK v26) d.items) (q - 1)).snd], Ob.arr true 1 (List.map
 intC (parK v26 d.items)), Ob.arr true 4 [], Ob.arr true 8 (List.map coreC (List.map reaC (List.drop (atK v26) d.items)))]; let v2 := (AV.tup [SV.agg [vI v26, vI (nbrK v26
 d.items), AC.ref 1, vI 0, vI 0, vS (ByteArray.mk #[]), AC.ref 2, AC.ref 3], lb true]); let v3 := [Ob.box [vI (scan rdB (List.drop (atK v26) d.items) (q - 1)).snd], Ob.arr true 1
 [], Ob.arr true 4 [], Ob.arr true 8 []]; let v4 := (AV.tup [SV.agg [vI 0, vI 0, AC.ref 1, vI 0, vI 0, vS (ByteArray.mk #[]), AC.ref 2, AC.ref 3], lb false]); let v5 := (AV.tup
 [SV.agg [vI 0, vI 0, AC.ref 1, vI 0, vI 0, vS (mkS []), AC.ref 2, AC.ref 3], lb false]); let v6 := (List.map datumC d.items); let v7 := [Ob.box [vI (q - 1)], Ob.arr true 1 [],
 Ob.arr true 4 [], Ob.arr true 8 []]; let v8 := (d.items.getD 1 default); let v9 := [0, 2, 3, 4, 5]; let v10 := (↑(List.map datumC d.items).length : Int); let v11 := (List.take
 (v6.length - 2) (List.drop 2 v6)); let v12 := (d.items.getD 0 default); let v13 := [2, 3, 4]; let v14 := [3, 5, 4]; let v15 := (li (↑(List.take (v6.length - 2) (List.drop 2
 v6)).length : Int)); let v16 := (Ob.arr true 8 []); let v17 := ((0 : Int) ≤ 1 ∧ v6[1]? = some (datumF v8)); let v18 := (List.take (v6.length - 1) (List.drop 1 v6)); let v19 :=
 (Sc_iRd_sLb d q h ih); let v20 := (Ob.arr true 1 []); let v21 := (vI (q - 1)); let v22 := [4, 5, 6]; let v23 := (lc_iRd_sLb d q); let v24 := (v11.length ≤ 9223372036854775807);
 let v25 := (v12.text.data.toList = [(108 : UInt8), (111 : UInt8), (99 : UInt8), (97 : UInt8), (108 : UInt8)]); let v27 := ((0 : Int) ≤ 0 ∧ v6[0]? = some (datumF v12)); let v28 :=
 (li (↑(List.take (v6.length - 1) (List.drop 1 v6)).length : Int)); let v29 := (1 < v10); let v30 := (Ob.arr true 1 (List.map intC (nbL v8))); let v31 := [5, 6, 7]; let v32 := ((0
 : Int) ≤ 2); let v33 := [3, 4, 5]; let v34 := (v18.length ≤ 9223372036854775807); .r (q - 1) (.i (q - (1 : Int) < 0) (.w (.ghost (.nilbox 2 2 true 1)) (.w (.ghost (.nilbox 2 6
 true 4)) (.w (.ghost (.nilbox 2 7 true 8)) (.f v33 v7 v4)))) (.i (d.kind = 1) (.c [.rd] (c_iNbr d) (.i (0 ≤ numD d) (.w (.ghost (.nilbox 2 2 true 1)) (.w (.ghost (.nilbox 2 6 true
 4)) (.w (.ghost (.nilbox 2 7 true 8)) (.f v33 v7 (AV.tup [SV.agg [vI 2, vI (nvD d), AC.ref 1, vI 0, vI 0, vS (ByteArray.mk #[]), AC.ref 2, AC.ref 3], lb true]))))) (.c []
 c_iPrimitiveNames (.h (14 ≤ 9223372036854775807) (.l (lc_iRd_sLa d q) (Sc_iRd_sLa d q h ih) [0, 1, 2, 3] [.s (li 0)] 0 (.t (.w (.ghost (.nilbox 1 2 true 1)) (.w (.ghost (.nilbox 1
 6 true 4)) (.w (.ghost (.nilbox 1 7 true 8)) (.f v13 v7 v4)))) (.t (.w (.ghost (.nilbox 1 2 true 1)) (.w (.ghost (.nilbox 1 6 true 4)) (.w (.ghost (.nilbox 1 7 true 8)) (.f v13 v7
 (AV.tup [SV.agg [vI 3, vI (idxL primNames d.text), AC.ref 1, vI 0, vI 0, vS (mkS []), AC.ref 2, AC.ref 3], lb true]))))) .q))))))) (.i (d.kind ≠ 0) (.y true (.w (.ghost (.nilbox 2
 2 true 1)) (.w (.ghost (.nilbox 2 6 true 4)) (.w (.ghost (.nilbox 2 7 true 8)) (.f v33 v7 v4))))) (.z datumC d.items (.i (v10 = 0) (.w (.ghost (.nilbox 2 2 true 1)) (.w (.ghost
 (.nilbox 2 6 true 4)) (.w (.ghost (.nilbox 2 7 true 8)) (.f v33 v7 v4)))) (.w (.cells (datumF v12)) (.p v27 (.i (v12.kind = 1) (.z datumC d.items (.w (.cells (datumF v12)) (.p v27
 (.i (v12.text.data.toList = [(113 : UInt8), (117 : UInt8), (111 : UInt8), (116 : UInt8), (101 : UInt8)]) (.z datumC d.items (.i (v10 ≠ 2) (.w (.ghost (.nilbox 2 2 true 1)) (.w
 (.ghost (.nilbox 2 6 true 4)) (.w (.ghost (.nilbox 2 7 true 8)) (.f v22 v7 v4)))) (.w (.cells (datumF v8)) (.p v17 (.d [.rd] (P_c_iCopyDatum v8) (.w (.ghost (.nilbox 2 2 true 1))
 (.w (.ghost (.nilbox 2 7 true 8)) (.f [5, 4, 6] [Ob.box [vI (q - 1)], Ob.arr true 1 [], Ob.arr true 4 (List.map datumC v8.items), Ob.arr true 8 []] (AV.tup [SV.agg [vI 1, vI 0,
 AC.ref 1, vI v8.kind, vI v8.number, vS v8.text, AC.ref 2, AC.ref 3], lb true]))))))))) (.i (v12.text.data.toList = [(115 : UInt8), (101 : UInt8), (116 : UInt8), (33 : UInt8)]) (.i
 v29 (.w (.cells (datumF v8)) (.p v17 (.c [.rd] (c_iNbr v8) (.p v32 (.p (2 ≤ v6.length ∧ v6.length ≤ v6.length ∧ ∀ (e : List Cell), e ∈ List.map datumC d.items → e.length = 4) (.b
 (!decide (0 ≤ numD v8)) (.w (.ghost (.nilbox 2 2 true 1)) (.w (.ghost (.nilbox 2 6 true 4)) (.w (.ghost (.nilbox 2 7 true 8)) (.f v22 v7 v4)))) (.h v24 (.w (.ghost (.nilbox 3 2
 true 1)) (.w (.ghost (.nilbox 3 7 true 8)) (.l v23 v19 v9 [.s (li 0), .s (ll v11), .s v15, .a v21, .a (vI 4), .a (vI (nvD v8)), .o v20, .o v16] 0 (.t (.w (.ghost (.nilbox 1 6 true
 4)) (.f v14 v1 v2)) (.t (.w (.ghost (.nilbox 1 2 true 1)) (.w (.ghost (.nilbox 1 6 true 4)) (.w (.ghost (.nilbox 1 7 true 8)) (.f v13 v3 v5)))) .q)))))))))))) (.b (!decide v29)
 (.w (.ghost (.nilbox 2 2 true 1)) (.w (.ghost (.nilbox 2 6 true 4)) (.w (.ghost (.nilbox 2 7 true 8)) (.f v22 v7 v4)))) (.z datumC d.items (.w (.ghost (.nilbox 3 2 true 1)) (.w
 (.ghost (.nilbox 3 7 true 8)) (.l v23 v19 v9 [.s (li 0), .s (ll v6), .s (li v10), .a v21, .a (vI 4), .a (vI 0), .o v20, .o v16] 0 (.t (.w (.ghost (.nilbox 1 6 true 4)) (.f v14 v1
 v2)) (.t (.w (.ghost (.nilbox 1 2 true 1)) (.w (.ghost (.nilbox 1 6 true 4)) (.w (.ghost (.nilbox 1 7 true 8)) (.f v13 v3 v5)))) .q)))))))) (.i (v12.text.data.toList = [(108 :
 UInt8), (97 : UInt8), (109 : UInt8), (98 : UInt8), (100 : UInt8), (97 : UInt8)]) (.y true (.w (.cells (datumF v12)) (.p v27 (.i v25 (.i v29 (.w (.cells (datumF v8)) (.p v17 (.d
 [.rd] (P_c_iNbrs v8) (.p v32 (.p (2 ≤ v6.length ∧ v6.length ≤ v6.length ∧ ∀ (e : List Cell), e ∈ List.map datumC d.items → e.length = 4) (.b (!nbB v8) (.w (.ghost (.nilbox 2 2
 true 1)) (.w (.ghost (.nilbox 2 6 true 4)) (.w (.ghost (.nilbox 2 7 true 8)) (.f v31 v7 v4)))) (.h v24 (.w (.ghost (.nilbox 3 7 true 8)) (.l v23 v19 v9 [.s (li 0), .s (ll v11), .s
 v15, .a v21, .a (vI 9), .a (vI 0), .o v30, .o v16] 0 (.t (.w (.ghost (.nilbox 1 6 true 4)) (.f v14 v1 v2)) (.t (.w (.ghost (.nilbox 1 2 true 1)) (.w (.ghost (.nilbox 1 6 true 4))
 (.w (.ghost (.nilbox 1 7 true 8)) (.f v13 v3 v5)))) .q))))))))))) (.b (!decide v29) (.w (.ghost (.nilbox 2 2 true 1)) (.w (.ghost (.nilbox 2 6 true 4)) (.w (.ghost (.nilbox 2 7
 true 8)) (.f v22 v7 v4)))) (.z datumC d.items (.w (.ghost (.nilbox 3 2 true 1)) (.w (.ghost (.nilbox 3 7 true 8)) (.l v23 v19 v9 [.s (li 0), .s (ll v6), .s (li v10), .a v21, .a
 (vI 9), .a (vI 0), .o v20, .o v16] 0 (.t (.w (.ghost (.nilbox 1 6 true 4)) (.f v14 v1 v2)) (.t (.w (.ghost (.nilbox 1 2 true 1)) (.w (.ghost (.nilbox 1 6 true 4)) (.w (.ghost
 (.nilbox 1 7 true 8)) (.f v13 v3 v5)))) .q)))))))) (.i v29 (.w (.cells (datumF v8)) (.p v17 (.d [.rd] (P_c_iNbrs v8) (.p v32 (.p (2 ≤ v6.length ∧ v6.length ≤ v6.length ∧ ∀ (e :
 List Cell), e ∈ List.map datumC d.items → e.length = 4) (.b (!nbB v8) (.w (.ghost (.nilbox 2 2 true 1)) (.w (.ghost (.nilbox 2 6 true 4)) (.w (.ghost (.nilbox 2 7 true 8)) (.f v31
 v7 v4)))) (.h v24 (.w (.ghost (.nilbox 3 7 true 8)) (.l v23 v19 v9 [.s (li 0), .s (ll v11), .s v15, .a v21, .a (vI 5), .a (vI 0), .o v30, .o v16] 0 (.t (.w (.ghost (.nilbox 1 6
 true 4)) (.f v14 v1 v2)) (.t (.w (.ghost (.nilbox 1 2 true 1)) (.w (.ghost (.nilbox 1 6 true 4)) (.w (.ghost (.nilbox 1 7 true 8)) (.f v13 v3 v5)))) .q))))))))))) (.b (!decide
 v29) (.w (.ghost (.nilbox 2 2 true 1)) (.w (.ghost (.nilbox 2 6 true 4)) (.w (.ghost (.nilbox 2 7 true 8)) (.f v22 v7 v4)))) (.z datumC d.items (.w (.ghost (.nilbox 3 2 true 1))
 (.w (.ghost (.nilbox 3 7 true 8)) (.l v23 v19 v9 [.s (li 0), .s (ll v6), .s (li v10), .a v21, .a (vI 5), .a (vI 0), .o v20, .o v16] 0 (.t (.w (.ghost (.nilbox 1 6 true 4)) (.f v14
 v1 v2)) (.t (.w (.ghost (.nilbox 1 2 true 1)) (.w (.ghost (.nilbox 1 6 true 4)) (.w (.ghost (.nilbox 1 7 true 8)) (.f v13 v3 v5)))) .q)))))))))))) (.i v25 (.w (.cells (datumF
 v12)) (.p v27 (.i v25 (.i v29 (.w (.cells (datumF v8)) (.p v17 (.d [.rd] (P_c_iNbrs v8) (.p v32 (.p (2 ≤ v6.length ∧ v6.length ≤ v6.length ∧ ∀ (e : List Cell), e ∈ List.map datumC
 d.items → e.length = 4) (.b (!nbB v8) (.w (.ghost (.nilbox 2 2 true 1)) (.w (.ghost (.nilbox 2 6 true 4)) (.w (.ghost (.nilbox 2 7 true 8)) (.f v31 v7 v4)))) (.h v24 (.w (.ghost
 (.nilbox 3 7 true 8)) (.l v23 v19 v9 [.s (li 0), .s (ll v11), .s v15, .a v21, .a (vI 9), .a (vI 0), .o v30, .o v16] 0 (.t (.w (.ghost (.nilbox 1 6 true 4)) (.f v14 v1 v2)) (.t (.w
 (.ghost (.nilbox 1 2 true 1)) (.w (.ghost (.nilbox 1 6 true 4)) (.w (.ghost (.nilbox 1 7 true 8)) (.f v13 v3 v5)))) .q))))))))))) (.b (!decide v29) (.w (.ghost (.nilbox 2 2 true
 1)) (.w (.ghost (.nilbox 2 6 true 4)) (.w (.ghost (.nilbox 2 7 true 8)) (.f v22 v7 v4)))) (.z datumC d.items (.w (.ghost (.nilbox 3 2 true 1)) (.w (.ghost (.nilbox 3 7 true 8))
 (.l v23 v19 v9 [.s (li 0), .s (ll v6), .s (li v10), .a v21, .a (vI 9), .a (vI 0), .o v20, .o v16] 0 (.t (.w (.ghost (.nilbox 1 6 true 4)) (.f v14 v1 v2)) (.t (.w (.ghost (.nilbox
 1 2 true 1)) (.w (.ghost (.nilbox 1 6 true 4)) (.w (.ghost (.nilbox 1 7 true 8)) (.f v13 v3 v5)))) .q)))))))) (.i v29 (.w (.cells (datumF v8)) (.p v17 (.d [.rd] (P_c_iNbrs v8) (.p
 v32 (.p (2 ≤ v6.length ∧ v6.length ≤ v6.length ∧ ∀ (e : List Cell), e ∈ List.map datumC d.items → e.length = 4) (.b (!nbB v8) (.w (.ghost (.nilbox 2 2 true 1)) (.w (.ghost
 (.nilbox 2 6 true 4)) (.w (.ghost (.nilbox 2 7 true 8)) (.f v31 v7 v4)))) (.h v24 (.w (.ghost (.nilbox 3 7 true 8)) (.l v23 v19 v9 [.s (li 0), .s (ll v11), .s v15, .a v21, .a (vI
 5), .a (vI 0), .o v30, .o v16] 0 (.t (.w (.ghost (.nilbox 1 6 true 4)) (.f v14 v1 v2)) (.t (.w (.ghost (.nilbox 1 2 true 1)) (.w (.ghost (.nilbox 1 6 true 4)) (.w (.ghost (.nilbox
 1 7 true 8)) (.f v13 v3 v5)))) .q))))))))))) (.b (!decide v29) (.w (.ghost (.nilbox 2 2 true 1)) (.w (.ghost (.nilbox 2 6 true 4)) (.w (.ghost (.nilbox 2 7 true 8)) (.f v22 v7
 v4)))) (.z datumC d.items (.w (.ghost (.nilbox 3 2 true 1)) (.w (.ghost (.nilbox 3 7 true 8)) (.l v23 v19 v9 [.s (li 0), .s (ll v6), .s (li v10), .a v21, .a (vI 5), .a (vI 0), .o
 v20, .o v16] 0 (.t (.w (.ghost (.nilbox 1 6 true 4)) (.f v14 v1 v2)) (.t (.w (.ghost (.nilbox 1 2 true 1)) (.w (.ghost (.nilbox 1 6 true 4)) (.w (.ghost (.nilbox 1 7 true 8)) (.f
 v13 v3 v5)))) .q))))))))))) (.i (v12.text.data.toList = [(115 : UInt8), (104 : UInt8), (105 : UInt8), (102 : UInt8), (116 : UInt8)]) (.i v29 (.w (.cells (datumF v8)) (.p v17 (.c
 [.rd] (c_iNbr v8) (.p v32 (.p (2 ≤ v6.length ∧ v6.length ≤ v6.length ∧ ∀ (e : List Cell), e ∈ List.map datumC d.items → e.length = 4) (.b (!decide (0 ≤ numD v8)) (.w (.ghost
 (.nilbox 2 2 true 1)) (.w (.ghost (.nilbox 2 6 true 4)) (.w (.ghost (.nilbox 2 7 true 8)) (.f v31 v7 v4)))) (.h v24 (.w (.ghost (.nilbox 3 7 true 8)) (.l v23 v19 v9 [.s (li 0), .s
 (ll v11), .s v15, .a v21, .a (vI 11), .a (vI 0), .o (Ob.arr true 1 [[cI (nvD v8)]]), .o v16] 0 (.t (.w (.ghost (.nilbox 1 6 true 4)) (.f v14 v1 v2)) (.t (.w (.ghost (.nilbox 1 2
 true 1)) (.w (.ghost (.nilbox 1 6 true 4)) (.w (.ghost (.nilbox 1 7 true 8)) (.f v13 v3 v5)))) .q))))))))))) (.b (!decide v29) (.w (.ghost (.nilbox 2 2 true 1)) (.w (.ghost
 (.nilbox 2 6 true 4)) (.w (.ghost (.nilbox 2 7 true 8)) (.f v22 v7 v4)))) (.z datumC d.items (.w (.ghost (.nilbox 3 2 true 1)) (.w (.ghost (.nilbox 3 7 true 8)) (.l v23 v19 v9 [.s
 (li 0), .s (ll v6), .s (li v10), .a v21, .a (vI 11), .a (vI 0), .o v20, .o v16] 0 (.t (.w (.ghost (.nilbox 1 6 true 4)) (.f v14 v1 v2)) (.t (.w (.ghost (.nilbox 1 2 true 1)) (.w
 (.ghost (.nilbox 1 6 true 4)) (.w (.ghost (.nilbox 1 7 true 8)) (.f v13 v3 v5)))) .q)))))))) (.i (v12.text.data.toList = [(105 : UInt8), (102 : UInt8)]) (.w (.draw [(4, [3])]) (.p
 ((0 : Int) ≤ 1) (.p (1 ≤ v6.length ∧ v6.length ≤ v6.length ∧ ∀ (e : List Cell), e ∈ List.map datumC d.items → e.length = 4) (.y false (.h v34 (.w (.ghost (.nilbox 3 2 true 1)) (.w
 (.ghost (.nilbox 3 7 true 8)) (.l v23 v19 v9 [.s (li 0), .s (ll v18), .s v28, .a v21, .a (vI 7), .a (vI 0), .o v20, .o v16] 0 (.t (.w (.ghost (.nilbox 1 6 true 4)) (.f v14 v1 v2))
 (.t (.w (.ghost (.nilbox 1 2 true 1)) (.w (.ghost (.nilbox 1 6 true 4)) (.w (.ghost (.nilbox 1 7 true 8)) (.f v13 v3 v5)))) .q)))))))))) (.i (v12.text.data.toList = [(98 : UInt8),
 (101 : UInt8), (103 : UInt8), (105 : UInt8), (110 : UInt8)]) (.w (.draw [(4, [3])]) (.p ((0 : Int) ≤ 1) (.p (1 ≤ v6.length ∧ v6.length ≤ v6.length ∧ ∀ (e : List Cell), e ∈
 List.map datumC d.items → e.length = 4) (.y false (.h v34 (.w (.ghost (.nilbox 3 2 true 1)) (.w (.ghost (.nilbox 3 7 true 8)) (.l v23 v19 v9 [.s (li 0), .s (ll v18), .s v28, .a
 v21, .a (vI 8), .a (vI 0), .o v20, .o v16] 0 (.t (.w (.ghost (.nilbox 1 6 true 4)) (.f v14 v1 v2)) (.t (.w (.ghost (.nilbox 1 2 true 1)) (.w (.ghost (.nilbox 1 6 true 4)) (.w
 (.ghost (.nilbox 1 7 true 8)) (.f v13 v3 v5)))) .q)))))))))) (.i (v12.text.data.toList = [(114 : UInt8), (101 : UInt8), (115 : UInt8), (101 : UInt8), (116 : UInt8)]) (.w (.draw
 [(4, [3])]) (.p ((0 : Int) ≤ 1) (.p (1 ≤ v6.length ∧ v6.length ≤ v6.length ∧ ∀ (e : List Cell), e ∈ List.map datumC d.items → e.length = 4) (.y false (.h v34 (.w (.ghost (.nilbox
 3 2 true 1)) (.w (.ghost (.nilbox 3 7 true 8)) (.l v23 v19 v9 [.s (li 0), .s (ll v18), .s v28, .a v21, .a (vI 10), .a (vI 0), .o v20, .o v16] 0 (.t (.w (.ghost (.nilbox 1 6 true
 4)) (.f v14 v1 v2)) (.t (.w (.ghost (.nilbox 1 2 true 1)) (.w (.ghost (.nilbox 1 6 true 4)) (.w (.ghost (.nilbox 1 7 true 8)) (.f v13 v3 v5)))) .q)))))))))) (.y false (.z datumC
 d.items (.w (.ghost (.nilbox 3 2 true 1)) (.w (.ghost (.nilbox 3 7 true 8)) (.l v23 v19 v9 [.s (li 0), .s (ll v6), .s (li v10), .a v21, .a (vI 6), .a (vI 0), .o v20, .o v16] 0 (.t
 (.w (.ghost (.nilbox 1 6 true 4)) (.f v14 v1 v2)) (.t (.w (.ghost (.nilbox 1 2 true 1)) (.w (.ghost (.nilbox 1 6 true 4)) (.w (.ghost (.nilbox 1 7 true 8)) (.f v13 v3 v5))))
 .q)))))))))))))))))) (.y false (.z datumC d.items (.w (.ghost (.nilbox 3 2 true 1)) (.w (.ghost (.nilbox 3 7 true 8)) (.l v23 v19 v9 [.s (li 0), .s (ll v6), .s (li v10), .a v21,
 .a (vI 6), .a (vI 0), .o v20, .o v16] 0 (.t (.w (.ghost (.nilbox 1 6 true 4)) (.f v14 v1 v2)) (.t (.w (.ghost (.nilbox 1 2 true 1)) (.w (.ghost (.nilbox 1 6 true 4)) (.w (.ghost
 (.nilbox 1 7 true 8)) (.f v13 v3 v5)))) .q)))))))))))))))) (by
  dsimp only [teasy, P_c_iRd, nthW, lc_iRd_sLa, lc_iRd_sLb]
  have e2 : ∀ j, j < d.items.length → wD (d.items.getD j default) ≤ wD d := fun j hj => by have := wD_eq d; have := @sumBy_mem _ wD d.items _ (getD_mem' hj); omega
  with_reducible repeat' (first | apply And.intro | exact zR | exact ih | (intro; skip) | apply c_iNbrs | apply c_iCopyDatum)
  all_goals (try simp only [std, inj] at *)
  all_goals with_reducible repeat' apply And.intro
  all_goals (try (first | with_reducible apply c_iNbrs | with_reducible apply c_iCopyDatum | with_reducible apply ih | (simp only [← List.map_append]; first | with_reducible apply c_iNbrs | with_reducible apply c_iCopyDatum | with_reducible apply ih)))
  all_goals (try simp only [Classical.not_not, Bool.not_eq_true', Bool.not_eq_false', decide_eq_true_eq, decide_eq_false_iff_not] at *)
  all_goals try (first | exact True.intro | with_reducible exact Nat.zero_le _ | with_reducible rfl | with_reducible assumption | with_reducible exact h.1 | omega | exact (lamloc).elim | exact (loc2).elim | with_reducible exact datumGet (by omega) | (have := e2 1 (by omega); omega))
  all_goals try (have R : nilR d q := by first | exact x_neg | exact x_non | exact x_emp | exact x_sym0 | exact x_quo0 | exact x_hed | exact x_no4 | exact x_no5
                 first | (rw [R.1]; done) | (rw [R.2]; done) | (rw [R.2]; rfl))
  all_goals try (have R := x_num (d := d) (q := q); first | (rw [R.1]; done) | (rw [R.2]; done) | (rw [R.2]; rfl) | (rw [R.2]; exact nv_a))
  all_goals try (have R := x_prim (d := d) (q := q); first | (rw [R.1]; done) | (rw [R.2]; done) | (rw [R.2]; rfl))
  all_goals try (have R := x_quo (d := d) (q := q); first | (rw [R.1]; done) | (rw [R.2]; done) | (rw [R.2]; rfl))
  all_goals try (have R : goR d q := by first | exact x_go4 | exact x_go5 | exact x_go7
                 first | (rw [R.1]; done) | (rw [R.1]; exact sc_t) | (rw [R.1]; exact sc_f) | (rw [R.2.1 (by with_reducible assumption)]; done) | (rw [R.2.1 (by with_reducible assumption)]; rfl) | (rw [R.2.2 (by with_reducible assumption)]; done) | (rw [R.2.2 (by with_reducible assumption)]; rfl))
  all_goals try (have fk : formK (d.items.getD 0 default) = 4 := fK4; rw [fk]; first | done | (rw [tk_d]; rfl) | (rw [nv_a]; rfl) | (rw [nb_a]; rfl) | rfl)
  all_goals try (have fk : formK (d.items.getD 0 default) = 5 := fK5; rw [fk]; first | done | (rw [tk_d]; rfl) | (rw [nv_a]; rfl) | (rw [nb_a]; rfl) | rfl)
  all_goals try (have fk : formK (d.items.getD 0 default) = 9 := fK9; rw [fk]; first | done | (rw [tk_d]; rfl) | (rw [nv_a]; rfl) | (rw [nb_a]; rfl) | rfl)
  all_goals try (have fk : formK (d.items.getD 0 default) = 11 := fK11; rw [fk]; first | done | (rw [tk_d]; rfl) | (rw [nv_a]; rfl) | (rw [nb_a]; rfl) | rfl)
  all_goals try (have fk : formK (d.items.getD 0 default) = 7 := fK7; rw [fk]; first | done | (rw [tk_d]; rfl) | (rw [nv_a]; rfl) | (rw [nb_a]; rfl) | rfl)
  all_goals try (have fk : formK (d.items.getD 0 default) = 8 := fK8; rw [fk]; first | done | (rw [tk_d]; rfl) | (rw [nv_a]; rfl) | (rw [nb_a]; rfl) | rfl)
  all_goals try (have fk : formK (d.items.getD 0 default) = 10 := fK10; rw [fk]; first | done | (rw [tk_d]; rfl) | (rw [nv_a]; rfl) | (rw [nb_a]; rfl) | rfl)
  all_goals try (have fk : formK (d.items.getD 0 default) = 6 := fK6; rw [fk]; first | done | (rw [tk_d]; rfl) | (rw [nv_a]; rfl) | (rw [nb_a]; rfl) | rfl)
  all_goals try (have fk : formK (d.items.getD 0 default) = 6 := fK0; rw [fk]; first | done | (rw [tk_d]; rfl) | (rw [nv_a]; rfl) | (rw [nb_a]; rfl) | rfl)
  all_goals first | (show (0 : Int) ≤ q - 1; omega) | (show q - 1 ≤ 3000; omega) | (intro hc; cases hc) | rfl)
theorem c_iRd (d : Datum) : ∀ (q : Int) (h : wD d ≤ 1048576 ∧ 0 ≤ q ∧ q ≤ 3000), P_c_iRd d q := Datum.ind (P := fun d => ∀ (q : Int) (h : wD d ≤ 1048576 ∧ 0 ≤ q ∧ q ≤ 3000), P_c_iRd d q) (fun d ih q h => c_iRd_s d q h ih) d
def rcX (d : Datum) : Core := if rcB d = true then reaC d else ⟨0, 0, [], lstD [], []⟩
abbrev P_c_sReadC (d : Datum) : Ct := ⟨11, [], [datumA d], coreO (rcX d), .tup [coreR (rcX d) 0, lb (rcB d)]⟩
theorem c_sReadC (d : Datum) (h : wD d ≤ 1048576)  : P_c_sReadC d := fnOK Tryz.call11 Tryz.func11 (.d [.rd] (P_c_sRead d) (.w (.draw []) (.d [.rd] (P_c_sValid (reaC d)) (.b (!valC
 (reaC d)) (.y true (.w (.ghost (.nilbox 1 2 true 1)) (.w (.ghost (.nilbox 1 6 true 4)) (.w (.ghost (.nilbox 1 7 true 8)) (.f [6, 7, 8] [Ob.arr true 1 [], Ob.arr true 4 [], Ob.arr
 true 8 []] (AV.tup [SV.agg [vI 0, vI 0, AC.ref 0, vI 0, vI 0, vS (ByteArray.mk #[]), AC.ref 1, AC.ref 2], lb false])))))) (.d [.rd] (P_c_sUnp (reaC d)) (.c [.rd, .rd] (c_sEqData
 (unpD (reaC d)) d) (.b (!decide (unpD (reaC d) = d)) (.w (.ghost (.nilbox 1 2 true 1)) (.w (.ghost (.nilbox 1 6 true 4)) (.w (.ghost (.nilbox 1 7 true 8)) (.f [15, 16, 17] [Ob.arr
 true 1 [], Ob.arr true 4 [], Ob.arr true 8 []] (AV.tup [SV.agg [vI 0, vI 0, AC.ref 0, vI 0, vI 0, vS (ByteArray.mk #[]), AC.ref 1, AC.ref 2], lb false]))))) (.f [2, 3, 4] [Ob.arr
 true 1 (List.map intC (reaC d).params), Ob.arr true 4 (List.map datumC (reaC d).datum.items), Ob.arr true 8 (List.map coreC (reaC d).kids)] (AV.tup [SV.agg [vI (reaC d).kind, vI
 (reaC d).number, AC.ref 0, vI (reaC d).datum.kind, vI (reaC d).datum.number, vS (reaC d).datum.text, AC.ref 1, AC.ref 2], lb true]))))))))) (by
  dsimp only [teasy, P_c_sReadC]
  have g1 := reaC_w d
  have g2 := @valC_V (reaC d)
  have g3 := @valC_K (reaC d)
  with_reducible repeat' (first | apply And.intro | exact zR | (intro; skip) | apply c_sRead | apply c_sValid | apply c_sUnp)
  all_goals (try simp only [std, inj] at *)
  all_goals with_reducible repeat' apply And.intro
  all_goals (try (first | with_reducible apply c_sRead | with_reducible apply c_sValid | with_reducible apply c_sUnp | (simp only [← List.map_append]; first | with_reducible apply c_sRead | with_reducible apply c_sValid | with_reducible apply c_sUnp)))
  all_goals (try (first | exact z | grind [rcX, rcB, lstD, snocI, snocS, rowSnoc])))
abbrev P_c_iReadC (d : Datum) : Ct := ⟨13, [], [datumA d], coreO (rcX d), .tup [coreR (rcX d) 0, lb (rcB d)]⟩
theorem c_iReadC (d : Datum) (h : wD d ≤ 1048576)  : P_c_iReadC d := fnOK Tryz.call13 Tryz.func13 (.d [.rd, .ptr] (P_c_iRd d 3000) (.w (.draw []) (.b (!(rdB d 3000).fst) (.y true (.y
 true (.w (.ghost (.nilbox 1 2 true 1)) (.w (.ghost (.nilbox 1 6 true 4)) (.w (.ghost (.nilbox 1 7 true 8)) (.f [8, 9, 10] [Ob.arr true 1 [], Ob.arr true 4 [], Ob.arr true 8 []]
 (AV.tup [SV.agg [vI 0, vI 0, AC.ref 0, vI 0, vI 0, vS (ByteArray.mk #[]), AC.ref 1, AC.ref 2], lb false]))))))) (.d [.rd] (P_c_iValid (rdC d 3000)) (.b (!valC (rdC d 3000)) (.y
 true (.w (.ghost (.nilbox 1 2 true 1)) (.w (.ghost (.nilbox 1 6 true 4)) (.w (.ghost (.nilbox 1 7 true 8)) (.f [8, 9, 10] [Ob.arr true 1 [], Ob.arr true 4 [], Ob.arr true 8 []]
 (AV.tup [SV.agg [vI 0, vI 0, AC.ref 0, vI 0, vI 0, vS (ByteArray.mk #[]), AC.ref 1, AC.ref 2], lb false])))))) (.d [.rd] (P_c_iUnp (rdC d 3000)) (.c [.rd, .rd] (c_iEqData (unpD
 (rdC d 3000)) d) (.b (!decide (unpD (rdC d 3000) = d)) (.w (.ghost (.nilbox 1 2 true 1)) (.w (.ghost (.nilbox 1 6 true 4)) (.w (.ghost (.nilbox 1 7 true 8)) (.f [17, 18, 19]
 [Ob.arr true 1 [], Ob.arr true 4 [], Ob.arr true 8 []] (AV.tup [SV.agg [vI 0, vI 0, AC.ref 0, vI 0, vI 0, vS (ByteArray.mk #[]), AC.ref 1, AC.ref 2], lb false]))))) (.f [4, 5, 6]
 [Ob.arr true 1 (List.map intC (rdC d 3000).params), Ob.arr true 4 (List.map datumC (rdC d 3000).datum.items), Ob.arr true 8 (List.map coreC (rdC d 3000).kids)] (AV.tup [SV.agg [vI
 (rdC d 3000).kind, vI (rdC d 3000).number, AC.ref 0, vI (rdC d 3000).datum.kind, vI (rdC d 3000).datum.number, vS (rdC d 3000).datum.text, AC.ref 1, AC.ref 2], lb true]))))))))))
 (by
  dsimp only [teasy, P_c_iReadC]
  have g1 := reaC_w d
  have g2 := @valC_V (reaC d)
  have g3 := @valC_K (reaC d)
  have g4 := @rc_rd d
  with_reducible repeat' (first | apply And.intro | exact zR | (intro; skip) | apply c_iRd | apply c_iValid | apply c_iUnp | apply c_iEqData)
  all_goals (try simp only [std, inj] at *)
  all_goals with_reducible repeat' apply And.intro
  all_goals (try (first | with_reducible apply c_iRd | with_reducible apply c_iValid | with_reducible apply c_iUnp | with_reducible apply c_iEqData | (simp only [← List.map_append]; first | with_reducible apply c_iRd | with_reducible apply c_iValid | with_reducible apply c_iUnp | with_reducible apply c_iEqData)))
  all_goals (try (first | exact z | grind [rcX, rcB, rdC, lstD, snocI, snocS, rowSnoc])))
end Go.Proofs.YtgeegppaaggcjaaGreatDoor
end
section
namespace Go.Proofs.YtgeegppaaggcjaaGreatDoor
open Go Go.Proofs.YtgeegppaaggcjaaGreatDoor.Ab
set_option linter.unusedVariables false
set_option linter.unusedSimpArgs false
set_option maxHeartbeats 4000000
abbrev P_c_markIntS (L : List Int) (n : Int) : Ct := ⟨41, [.arr true 1 (L.map intC)], [.one (.ref 0), li n], [.arr true 1 ((seqM mkI cOne L n).map intC)], .sv (li (n + L.length))⟩
def lc_markIntSLa (L : List Int) (n : Int) : Lp Nat := .mk 19 1 (fun x => [(0, SV.one (AC.ref 0)), (1, hs x 1), (5, hs x 0)]) (fun x => [ho x 2]) (fun k => [.s (li (↑k : Int)), .s
 (li (n + (↑k : Int))), .o (Ob.arr true 1 (List.map intC (mkTo mkI cOne L n k)))]) (fun k => k ≤ L.length ∧ L.length ≤ 9223372036854775807) (fun k => L.length - k) [.mk True (.exit
 0) (fun x => [(1, hs x 0)]) (fun x => [ho x 1]) [.s (li (n + (↑L.length : Int))), .o (Ob.arr true 1 (List.map intC (seqM mkI cOne L n)))]]
theorem Sc_markIntSLa (L : List Int) (n : Int) (h0 : 0 ≤ n) (h : n + (↑L.length : Int) ≤ 100000000000000) : Lp.Sem Tryz.prog (loopAt Tryz.f41 0) (lc_markIntSLa L n) := lpOK (fun k
 => .z intC (mkTo mkI cOne L n k) (.i ((↑k : Int) < (↑(List.map intC (mkTo mkI cOne L n k)).length : Int)) (.p (0 ≤ (↑k : Int) ∧ (↑k : Int).toNat < (List.map intC (mkTo mkI cOne L
 n k)).length) (.w (.cells (intC (L.getD (↑k : Int).toNat default))) (.p ((List.map intC (mkTo mkI cOne L n k))[(↑k : Int).toNat]? = some [cI (L.getD (↑k : Int).toNat 0)]) (.r (n +
 (↑k : Int) + 1) (.r ((↑k : Int) + 1) (.g [0] (k + 1) [.s (li ((↑k : Int) + 1)), .s (li (n + (↑k : Int) + 1)), .o (Ob.arr true 1 ((List.map intC (mkTo mkI cOne L n k)).set (↑k :
 Int).toNat [cI (n + (↑k : Int))]))])))))) (.o 0 [0] [.s (li (n + (↑k : Int))), .o (Ob.arr true 1 (List.map intC (mkTo mkI cOne L n k)))]))) (by
  intro k h; try dsimp only [teasy, nthW, lc_markIntSLa] at h ⊢
  with_reducible repeat' (first | apply And.intro | exact zR | (intro; skip))
  all_goals (try simp only [std, stdM, inj] at *)
  all_goals with_reducible repeat' apply And.intro
  all_goals (try (first | exact z | ((first | refine rowGet ?_ | refine getC ?_ rfl); (first | omega | (simp only [std, stdM]; omega) | grind)) | (refine set_row ?_; (simp only [List.length_map, List.length_set, mkTo_len]; omega)) | (refine mkToRow ?_; (first | omega | (simp only [std, stdM]; omega) | grind)) | (refine mkTo_row ?_ rfl; (first | omega | (simp only [std, stdM]; omega) | grind)) | (refine mkTo_step ?_ ?_; (first | omega | (simp only [std, stdM]; omega) | grind); (first | grind [mkTo_all, mkI, cOne_take, intC, mkTo_get, snocI, snocS, rowSnoc])) | grind [mkTo_all, mkI, cOne_take, intC, mkTo_get, snocI, snocS, rowSnoc])))
theorem c_markIntS (L : List Int) (n : Int) (h0 : 0 ≤ n) (h : n + L.length ≤ 100000000000000)  : P_c_markIntS L n := fnOK Tryz.call41 Tryz.func41 (.l (lc_markIntSLa L n)
 (Sc_markIntSLa L n h0 h) [0] [.s (li 0), .s (li n), .o (Ob.arr true 1 (List.map intC L))] 0 (.t (.f [] [Ob.arr true 1 (List.map intC (seqM mkI cOne L n))] (AV.sv (li (n +
 (↑L.length : Int))))) .q)) (by
  dsimp only [teasy, P_c_markIntS, nthW, lc_markIntSLa]
  with_reducible repeat' (first | apply And.intro | exact zR | (intro; skip))
  all_goals (try simp only [std, stdM, inj] at *)
  all_goals with_reducible repeat' apply And.intro
  all_goals (try (first | exact z | ((first | refine rowGet ?_ | refine getC ?_ rfl); (first | omega | (simp only [std, stdM]; omega) | grind)) | (refine set_row ?_; (simp only [List.length_map, List.length_set, mkTo_len]; omega)) | (refine mkToRow ?_; (first | omega | (simp only [std, stdM]; omega) | grind)) | (refine mkTo_row ?_ rfl; (first | omega | (simp only [std, stdM]; omega) | grind)) | (refine mkTo_step ?_ ?_; (first | omega | (simp only [std, stdM]; omega) | grind); (first | grind [mkTo_zero, snocI, snocS, rowSnoc])) | grind [mkTo_zero, snocI, snocS, rowSnoc])))
abbrev P_c_markText (n : Int) : Ct := ⟨92, [], [li n], [], .sv (ls (mText n))⟩
def lc_markTextLa (n : Int) : Lp (Int × List UInt8) := .mk 20 0 (fun x => [(0, hs x 0), (3, hs x 1)]) (fun x => []) (fun k => [.s (li k.fst), .s (ls (mkS k.snd))]) (fun k => 0 ≤
 k.fst ∧ k.fst ≤ n ∧ digs k.fst.toNat ++ k.snd = digs n.toNat) (fun k => k.fst.toNat) [.mk True (.exit 0) (fun x => [(3, hs x 0)]) (fun x => []) [.s (ls (mkS (digs n.toNat)))]]
theorem Sc_markTextLa (n : Int) (h0 : 0 ≤ n) (h : n ≤ 100000000000000) : Lp.Sem Tryz.prog (loopAt Tryz.f92 0) (lc_markTextLa n) := lpOK (fun k => .i (0 < k.fst) (.p ((10 : Int) ≠
 0) (.r (48 + k.fst.tmod 10) (.p (rng IntKind.u8 (48 + k.fst.tmod 10)) (.w (.bytes [UInt8.ofNat (48 + k.fst.tmod 10).toNat]) (.p ([[Cell.lit (Value.int IntKind.u8 (48 + k.fst.tmod
 10))]] = [[Cell.lit (Value.int IntKind.u8 (↑(UInt8.ofNat (48 + k.fst.tmod 10).toNat).toNat : Int))]]) (.p (1 + k.snd.length ≤ 9223372036854775807) (.p ((10 : Int) ≠ 0) (.r
 (k.fst.tdiv 10) (.g [] (k.fst.tdiv 10, [UInt8.ofNat (48 + k.fst.tmod 10).toNat] ++ k.snd) [.s (li (k.fst.tdiv 10)), .s (ls (ByteArray.mk ([UInt8.ofNat (48 + k.fst.tmod 10).toNat]
 ++ k.snd).toArray))]))))))))) (.o 0 [] [.s (ls (mkS k.snd))])) (by
  intro k h; try dsimp only [teasy, nthW, lc_markTextLa] at h ⊢
  obtain ⟨i, l⟩ := k
  simp only at *
  obtain ⟨g1, g2, g3⟩ := h
  have g4 : l.length ≤ 100000000000000 := by
    have := congrArg List.length g3
    have := digs_len n.toNat
    simp only [List.length_append] at *
    omega
  simp only [Int.tmod_eq_emod_of_nonneg g1, Int.tdiv_eq_ediv_of_nonneg g1]
  refine ⟨fun g => ?_, fun g => ?_⟩
  · refine ⟨by decide, by rw [rng64]; omega, by rw [rngu8]; omega, by rw [u8_int (by omega) (by omega)], by omega, by decide, by rw [rng64]; omega, by omega, rfl, ?_⟩
    exact ⟨by show 0 ≤ i / 10; omega, by show i / 10 ≤ n; omega, by show digs (i / 10).toNat ++ ([_] ++ l) = _; rw [← g3, digs_int g, List.append_assoc]⟩
  · refine ⟨trivial, ?_⟩
    have e : i = 0 := by omega
    subst e
    rw [show digs (0 : Int).toNat = [] from digs_zero] at g3
    rw [← g3]; rfl)
theorem c_markText (n : Int) (h0 : 0 ≤ n) (h : n ≤ 100000000000000)  : P_c_markText n := fnOK Tryz.call92 Tryz.func92 (.i (n ≤ 0) (.s (ls (ByteArray.mk #[(109 : UInt8), (48 :
 UInt8)]))) (.l (lc_markTextLa n) (Sc_markTextLa n h0 h) [] [.s (li n), .s (ls (ByteArray.mk #[]))] (n, []) (.t (.p (1 + (digs n.toNat).length ≤ 9223372036854775807) (.s (ls
 (ByteArray.mk ([(109 : UInt8)] ++ digs n.toNat).toArray)))) .q))) (by
  dsimp only [teasy, P_c_markText, nthW, lc_markTextLa]
  have g := digs_len n.toNat
  simp only [mText]
  with_reducible repeat' (first | apply And.intro | exact zR | (intro; skip))
  all_goals (try simp only [std, stdM, inj] at *)
  all_goals with_reducible repeat' apply And.intro
  all_goals (try (first | exact z | ((first | refine rowGet ?_ | refine getC ?_ rfl); (first | omega | (simp only [std, stdM]; omega) | grind)) | (refine set_row ?_; (simp only [List.length_map, List.length_set, mkTo_len]; omega)) | (refine mkToRow ?_; (first | omega | (simp only [std, stdM]; omega) | grind)) | (refine mkTo_row ?_ rfl; (first | omega | (simp only [std, stdM]; omega) | grind)) | (refine mkTo_step ?_ ?_; (first | omega | (simp only [std, stdM]; omega) | grind); (first | grind [mkS, snocI, snocS, rowSnoc])) | grind [mkS, snocI, snocS, rowSnoc])))
abbrev P_c_markDatumS (x : Datum) (n : Int) : Ct := ⟨40, [.arr true 4 (x.items.map datumC)], [.one (.ref 0), li n], [.arr true 4 ((seqM mkD cD x.items n).map datumC)], .sv (li (n + sumBy cD x.items))⟩
def lc_markDatumS_sLa (x : Datum) (n : Int) : Lp Nat := .mk 42 1 (fun x => [(0, SV.one (AC.ref 0)), (1, hs x 1), (5, hs x 0)]) (fun x => [ho x 2]) (fun k => [.s (li (↑k : Int)), .s
 (li (n + (↑(sumBy cD (List.take k x.items)) : Int))), .o (Ob.arr true 4 (List.map datumC (mkTo mkD cD x.items n k)))]) (fun k => k ≤ x.items.length ∧ x.items.length ≤
 9223372036854775807) (fun k => x.items.length - k) [.mk True (.exit 0) (fun x => [(1, hs x 0)]) (fun x => [ho x 1]) [.s (li (n + (↑(sumBy cD x.items) : Int))), .o (Ob.arr true 4
 (List.map datumC (seqM mkD cD x.items n)))]]
theorem Sc_markDatumS_sLa (x : Datum) (n : Int) (h0 : 0 ≤ n) (h : n + (↑(sumBy cD x.items) : Int) ≤ 100000000000000) (ih : ∀ (z : Datum), z ∈ x.items → ∀ (n : Int), 0 ≤ n → n +
 (↑(sumBy cD z.items) : Int) ≤ 100000000000000 → OK (P_c_markDatumS z n)) : Lp.Sem Tryz.prog (loopAt Tryz.f40 0) (lc_markDatumS_sLa x n) := lpOK (fun k => let v1 := (↑(sumBy cD
 (List.take k x.items)) : Int); let v2 := (x.items.getD (↑k : Int).toNat default); let v3 := (List.map datumC (mkTo mkD cD x.items n k)); let v10 := (n + v1 + 1 + 1); let v8 :=
 (List.map datumC v2.items); let v4 := [cI (n + v1), cI (n + v1 + 1), cS (mText v10), Cell.list v8]; let v5 := [cI (n + v1), cI (n + v1 + 1), cS v2.text, Cell.list v8]; let v6 :=
 [cI (n + v1), cI v2.number, cS v2.text, Cell.list v8]; let v7 := (n + v1 + 1 + 1 + 1); let v9 := (v3.set (↑k : Int).toNat v4); .z datumC (mkTo mkD cD x.items n k) (.i ((↑k : Int)
 < (↑(List.map datumC (mkTo mkD cD x.items n k)).length : Int)) (.p (0 ≤ (↑k : Int) ∧ (↑k : Int).toNat < v3.length) (.w (.cells (datumF v2)) (.p (v3[(↑k : Int).toNat]? = some
 (datumF v2)) (.r (n + v1 + 1) (.p (0 ≤ (↑k : Int) ∧ (↑k : Int).toNat < (v3.set (↑k : Int).toNat v6).length) (.w (.take v6 (v3.set (↑k : Int).toNat v5) 0) (.p ((v3.set (↑k :
 Int).toNat v6)[(↑k : Int).toNat]? = some v6) (.p ((v3.set (↑k : Int).toNat v6).set (↑k : Int).toNat v5 = v3.set (↑k : Int).toNat v5) (.r v10 (.d [.rd] (P_c_markText v10) (.p (0 ≤
 (↑k : Int) ∧ (↑k : Int).toNat < (v3.set (↑k : Int).toNat v5).length) (.w (.take v5 v9 0) (.p ((v3.set (↑k : Int).toNat v5)[(↑k : Int).toNat]? = some v5) (.p ((v3.set (↑k :
 Int).toNat v5).set (↑k : Int).toNat v4 = v3.set (↑k : Int).toNat v4) (.r v7 (.p (0 ≤ (↑k : Int) ∧ (↑k : Int).toNat < v9.length) (.w .sub (.p ((↑k : Int).toNat < v9.length) (.w
 (.subcall v4 v8 4) (.u [.own true 4, .rd] (P_c_markDatumS v2 v7) (.p (v9[(↑k : Int).toNat]? = some v4) (.p (some (Cell.list v8) = some (Cell.list v8)) (.p (∀ (x_1 : List Cell),
 x_1 ∈ List.map datumC v2.items → x_1.length = 4) (.p (OK (P_c_markDatumS v2 v7)) (.r ((↑k : Int) + 1) (.g [0] (k + 1) [.s (li ((↑k : Int) + 1)), .s (li (n + v1 + 1 + 1 + 1 +
 (↑(sumBy cD v2.items) : Int))), .o (Ob.arr true 4 (v9.set (↑k : Int).toNat [cI (n + v1), cI (n + v1 + 1), cS (mText v10), Cell.list (List.map datumC (seqM mkD cD v2.items
 v7))]))])))))))))))))))))))))))))) (.o 0 [0] [.s (li (n + v1)), .o (Ob.arr true 4 v3)]))) (by
  intro k h; try dsimp only [teasy, nthW, lc_markDatumS_sLa] at h ⊢
  have g0 := sumBy_takeLe cD x.items (k + 1)
  with_reducible repeat' (first | apply And.intro | exact zR | exact ih | (intro; skip) | apply c_markText | apply ih)
  all_goals (try simp only [std, stdM, inj] at *)
  all_goals with_reducible repeat' apply And.intro
  all_goals (try (first | with_reducible apply c_markText | with_reducible apply ih | (simp only [← List.map_append]; first | with_reducible apply c_markText | with_reducible apply ih)))
  all_goals (try (first | exact z | ((first | refine rowGet ?_ | refine getC ?_ rfl); (first | omega | (simp only [std, stdM]; omega) | grind)) | (refine set_row ?_; (simp only [List.length_map, List.length_set, mkTo_len]; omega)) | (refine mkToRow ?_; (first | omega | (simp only [std, stdM]; omega) | grind)) | (refine mkTo_row ?_ rfl; (first | omega | (simp only [std, stdM]; omega) | grind)) | (refine mkTo_step ?_ ?_; (first | omega | (simp only [std, stdM]; omega) | grind); (first | exact mkD_C _ _ | grind [sumBy_step, getD_mem', cD_eq, mkD_C, mkTo_all, snocI, snocS, rowSnoc])) | grind [sumBy_step, getD_mem', cD_eq, mkD_C, mkTo_all, snocI, snocS, rowSnoc])))
theorem c_markDatumS_s (x : Datum) (n : Int) (h0 : 0 ≤ n) (h : n + sumBy cD x.items ≤ 100000000000000) (ih : ∀ z ∈ x.items, ∀ (n : Int) (h0 : 0 ≤ n) (h : n + sumBy cD z.items ≤
 100000000000000), P_c_markDatumS z n)  : P_c_markDatumS x n := fnOK Tryz.call40 Tryz.func40 (.l (lc_markDatumS_sLa x n) (Sc_markDatumS_sLa x n h0 h ih) [0] [.s (li 0), .s (li n), .o
 (Ob.arr true 4 (List.map datumC x.items))] 0 (.t (.f [] [Ob.arr true 4 (List.map datumC (seqM mkD cD x.items n))] (AV.sv (li (n + (↑(sumBy cD x.items) : Int))))) .q)) (by
  dsimp only [teasy, P_c_markDatumS, nthW, lc_markDatumS_sLa]
  have gl := cD_len x.items
  with_reducible repeat' (first | apply And.intro | exact zR | exact ih | (intro; skip) | apply c_markText)
  all_goals (try simp only [std, stdM, inj] at *)
  all_goals with_reducible repeat' apply And.intro
  all_goals (try (first | with_reducible apply c_markText | with_reducible apply ih | (simp only [← List.map_append]; first | with_reducible apply c_markText | with_reducible apply ih)))
  all_goals (try (first | exact z | ((first | refine rowGet ?_ | refine getC ?_ rfl); (first | omega | (simp only [std, stdM]; omega) | grind)) | (refine set_row ?_; (simp only [List.length_map, List.length_set, mkTo_len]; omega)) | (refine mkToRow ?_; (first | omega | (simp only [std, stdM]; omega) | grind)) | (refine mkTo_row ?_ rfl; (first | omega | (simp only [std, stdM]; omega) | grind)) | (refine mkTo_step ?_ ?_; (first | omega | (simp only [std, stdM]; omega) | grind); (first | grind [mkTo_all, snocI, snocS, rowSnoc])) | grind [mkTo_all, snocI, snocS, rowSnoc])))
theorem c_markDatumS (x : Datum) : ∀ (n : Int) (h0 : 0 ≤ n) (h : n + sumBy cD x.items ≤ 100000000000000), P_c_markDatumS x n := Datum.ind (P := fun x => ∀ (n : Int) (h0 : 0 ≤ n) (h : n + sumBy cD x.items ≤ 100000000000000), P_c_markDatumS x n) (fun x ih n h0 h => c_markDatumS_s x n h0 h ih) x
theorem c_markDatumSL (L : List Datum) (n : Int) (h0 : 0 ≤ n) (h : n + sumBy cD L ≤ 100000000000000) : P_c_markDatumS { (default : Datum) with items := L } n := c_markDatumS { (default : Datum) with items := L } n h0 h
abbrev P_c_markDatum (x : Datum) (n : Int) : Ct := ⟨16, [.arr true 4 (x.items.map datumC)], [.agg [vI x.kind, vI x.number, vS x.text, .ref 0], li n], [.arr true 4 ((seqM mkD cD x.items (n)).map datumC)], .sv (li (n + sumBy cD x.items))⟩
theorem c_markDatum (x : Datum) (n : Int) (h0 : 0 ≤ n) (h : n + (sumBy cD x.items : Nat) ≤ 100000000000000)  : P_c_markDatum x n := fnOK Tryz.call16 Tryz.func16 (.d [.own true 4,
 .rd] (P_c_markDatumS x n) (.f [] [Ob.arr true 4 (List.map datumC (seqM mkD cD x.items n))] (AV.sv (li (n + (↑(sumBy cD x.items) : Int)))))) (by
  dsimp only [teasy, P_c_markDatum]
  with_reducible repeat' (first | apply And.intro | exact zR | (intro; skip) | apply c_markDatumS | apply c_markDatumSL)
  all_goals (try simp only [std, stdM, inj] at *)
  all_goals with_reducible repeat' apply And.intro
  all_goals (try (first | with_reducible apply c_markDatumS | with_reducible apply c_markDatumSL | (simp only [← List.map_append]; first | with_reducible apply c_markDatumS | with_reducible apply c_markDatumSL)))
  all_goals (try (first | exact z | ((first | refine rowGet ?_ | refine getC ?_ rfl); (first | omega | (simp only [std, stdM]; omega) | grind)) | (refine set_row ?_; (simp only [List.length_map, List.length_set, mkTo_len]; omega)) | (refine mkToRow ?_; (first | omega | (simp only [std, stdM]; omega) | grind)) | (refine mkTo_row ?_ rfl; (first | omega | (simp only [std, stdM]; omega) | grind)) | (refine mkTo_step ?_ ?_; (first | omega | (simp only [std, stdM]; omega) | grind); (first | grind [snocI, snocS, rowSnoc])) | grind [snocI, snocS, rowSnoc])))
abbrev P_c_markCoreS (x : Core) (n : Int) : Ct := ⟨42, [.arr true 8 (x.kids.map coreC)], [.one (.ref 0), li n], [.arr true 8 ((seqM mkC cC x.kids n).map coreC)], .sv (li (n + sumBy cC x.kids))⟩
def lc_markCoreS_sLa (x : Core) (n : Int) : Lp Nat := .mk 74 1 (fun x => [(0, SV.one (AC.ref 0)), (1, hs x 1), (5, hs x 0)]) (fun x => [ho x 2]) (fun k => [.s (li (↑k : Int)), .s
 (li (n + (↑(sumBy cC (List.take k x.kids)) : Int))), .o (Ob.arr true 8 (List.map coreC (mkTo mkC cC x.kids n k)))]) (fun k => k ≤ x.kids.length ∧ x.kids.length ≤
 9223372036854775807) (fun k => x.kids.length - k) [.mk True (.exit 0) (fun x => [(1, hs x 0)]) (fun x => [ho x 1]) [.s (li (n + (↑(sumBy cC x.kids) : Int))), .o (Ob.arr true 8
 (List.map coreC (seqM mkC cC x.kids n)))]]
theorem Sc_markCoreS_sLa (x : Core) (n : Int) (h0 : 0 ≤ n) (h : n + (↑(sumBy cC x.kids) : Int) ≤ 100000000000000) (ih : ∀ (z : Core), z ∈ x.kids → ∀ (n : Int), 0 ≤ n → n + (↑(sumBy
 cC z.kids) : Int) ≤ 100000000000000 → OK (P_c_markCoreS z n)) : Lp.Sem Tryz.prog (loopAt Tryz.f42 0) (lc_markCoreS_sLa x n) := lpOK (fun k => let v8 := (↑(sumBy cC (List.take k
 x.kids)) : Int); let v15 := (n + v8 + 1); let v7 := (x.kids.getD (↑k : Int).toNat default); let v24 := (List.map intC v7.params); let v18 := (List.map datumC v7.datum.items); let
 v21 := (List.map coreC v7.kids); let v1 := [cI (n + v8), cI v15, Cell.list v24, cI v7.datum.kind, cI v7.datum.number, cS v7.datum.text, Cell.list v18, Cell.list v21]; let v23 :=
 (n + v8 + 1 + 1); let v12 := (List.map intC (seqM mkI cOne v7.params v23)); let v10 := (↑(x.kids.getD (↑k : Int).toNat default).params.length : Int); let v22 := (n + v8 + 1 + 1 +
 v10); let v20 := (n + v8 + 1 + 1 + v10 + 1); let v17 := (n + v8 + 1 + 1 + v10 + 1 + 1); let v2 := [cI (n + v8), cI v15, Cell.list v12, cI v22, cI v20, cS (mText v17), Cell.list
 v18, Cell.list v21]; let v3 := [cI (n + v8), cI v15, Cell.list v12, cI v22, cI v20, cS v7.datum.text, Cell.list v18, Cell.list v21]; let v16 := (n + v8 + 1 + 1 + v10 + 1 + 1 + 1);
 let v4 := [cI (n + v8), cI v15, Cell.list v12, cI v22, cI v20, cS (mText v17), Cell.list (List.map datumC (seqM mkD cD v7.datum.items v16)), Cell.list v21]; let v5 := [cI (n +
 v8), cI v15, Cell.list v12, cI v22, cI v7.datum.number, cS v7.datum.text, Cell.list v18, Cell.list v21]; let v6 := [cI (n + v8), cI v15, Cell.list v12, cI v7.datum.kind, cI
 v7.datum.number, cS v7.datum.text, Cell.list v18, Cell.list v21]; let v13 := (List.map coreC (mkTo mkC cC x.kids n k)); let v9 := (v13.set (↑k : Int).toNat v1); let v11 := [cI (n
 + v8), cI v7.number, Cell.list v24, cI v7.datum.kind, cI v7.datum.number, cS v7.datum.text, Cell.list v18, Cell.list v21]; let v14 := (v9.set (↑k : Int).toNat v2); let v19 := (n +
 v8 + 1 + 1 + v10 + 1 + 1 + 1 + (↑(sumBy cD v7.datum.items) : Int)); .z coreC (mkTo mkC cC x.kids n k) (.i ((↑k : Int) < (↑(List.map coreC (mkTo mkC cC x.kids n k)).length : Int))
 (.p (0 ≤ (↑k : Int) ∧ (↑k : Int).toNat < v13.length) (.w (.cells (coreF v7)) (.p (v13[(↑k : Int).toNat]? = some (coreF v7)) (.r v15 (.p (0 ≤ (↑k : Int) ∧ (↑k : Int).toNat <
 (v13.set (↑k : Int).toNat v11).length) (.w (.take v11 v9 0) (.p ((v13.set (↑k : Int).toNat v11)[(↑k : Int).toNat]? = some v11) (.p ((v13.set (↑k : Int).toNat v11).set (↑k :
 Int).toNat v1 = v13.set (↑k : Int).toNat v1) (.r v23 (.p (0 ≤ (↑k : Int) ∧ (↑k : Int).toNat < v9.length) (.w .sub (.p ((↑k : Int).toNat < v9.length) (.w (.subcall v1 v24 1) (.u
 [.own true 1, .rd] (P_c_markIntS v7.params v23) (.p (v9[(↑k : Int).toNat]? = some v1) (.p (some (Cell.list v24) = some (Cell.list v24)) (.p (∀ (x_1 : List Cell), x_1 ∈ List.map
 intC v7.params → x_1.length = 1) (.p (OK (P_c_markIntS v7.params v23)) (.p (0 ≤ (↑k : Int) ∧ (↑k : Int).toNat < (v9.set (↑k : Int).toNat v6).length) (.w (.take v6 (v9.set (↑k :
 Int).toNat v5) 0) (.p ((v9.set (↑k : Int).toNat v6)[(↑k : Int).toNat]? = some v6) (.p ((v9.set (↑k : Int).toNat v6).set (↑k : Int).toNat v5 = v9.set (↑k : Int).toNat v5) (.r v20
 (.p (0 ≤ (↑k : Int) ∧ (↑k : Int).toNat < (v9.set (↑k : Int).toNat v5).length) (.w (.take v5 (v9.set (↑k : Int).toNat v3) 0) (.p ((v9.set (↑k : Int).toNat v5)[(↑k : Int).toNat]? =
 some v5) (.p ((v9.set (↑k : Int).toNat v5).set (↑k : Int).toNat v3 = v9.set (↑k : Int).toNat v3) (.r v17 (.d [.rd] (P_c_markText v17) (.p (0 ≤ (↑k : Int) ∧ (↑k : Int).toNat <
 (v9.set (↑k : Int).toNat v3).length) (.w (.take v3 v14 0) (.p ((v9.set (↑k : Int).toNat v3)[(↑k : Int).toNat]? = some v3) (.p ((v9.set (↑k : Int).toNat v3).set (↑k : Int).toNat v2
 = v9.set (↑k : Int).toNat v2) (.r v16 (.p (0 ≤ (↑k : Int) ∧ (↑k : Int).toNat < v14.length) (.w .sub (.p ((↑k : Int).toNat < v14.length) (.w (.subcall v2 v18 4) (.u [.own true 4,
 .rd] (P_c_markDatumS v7.datum v16) (.p (v14[(↑k : Int).toNat]? = some v2) (.p (some (Cell.list v18) = some (Cell.list v18)) (.p (∀ (x_1 : List Cell), x_1 ∈ List.map datumC
 v7.datum.items → x_1.length = 4) (.p (OK (P_c_markDatumS v7.datum v16)) (.p (0 ≤ (↑k : Int) ∧ (↑k : Int).toNat < (v14.set (↑k : Int).toNat v4).length) (.w .sub (.p ((↑k :
 Int).toNat < (v14.set (↑k : Int).toNat v4).length) (.w (.subcall v4 v21 8) (.u [.own true 8, .rd] (P_c_markCoreS v7 v19) (.p ((v14.set (↑k : Int).toNat v4)[(↑k : Int).toNat]? =
 some v4) (.p (some (Cell.list v21) = some (Cell.list v21)) (.p (∀ (x_1 : List Cell), x_1 ∈ List.map coreC v7.kids → x_1.length = 8) (.p (OK (P_c_markCoreS v7 v19)) (.r ((↑k : Int)
 + 1) (.g [0] (k + 1) [.s (li ((↑k : Int) + 1)), .s (li (n + v8 + 1 + 1 + v10 + 1 + 1 + 1 + (↑(sumBy cD v7.datum.items) : Int) + (↑(sumBy cC v7.kids) : Int))), .o (Ob.arr true 8
 ((v14.set (↑k : Int).toNat v4).set (↑k : Int).toNat [cI (n + v8), cI v15, Cell.list v12, cI v22, cI v20, cS (mText v17), Cell.list (List.map datumC (seqM mkD cD v7.datum.items
 v16)), Cell.list (List.map coreC (seqM mkC cC v7.kids v19))]))])))))))))))))))))))))))))))))))))))))))))))))))))))))) (.o 0 [0] [.s (li (n + v8)), .o (Ob.arr true 8 v13)]))) (by
  intro k h; try dsimp only [teasy, nthW, lc_markCoreS_sLa] at h ⊢
  have g0 := sumBy_takeLe cC x.kids (k + 1)
  with_reducible repeat' (first | apply And.intro | exact zR | exact ih | (intro; skip) | apply c_markIntS | apply c_markText | apply c_markDatumS | apply c_markDatumSL | apply ih)
  all_goals (try simp only [std, stdM, inj] at *)
  all_goals with_reducible repeat' apply And.intro
  all_goals (try (first | with_reducible apply c_markIntS | with_reducible apply c_markText | with_reducible apply c_markDatumS | with_reducible apply c_markDatumSL | with_reducible apply ih | (simp only [← List.map_append]; first | with_reducible apply c_markIntS | with_reducible apply c_markText | with_reducible apply c_markDatumS | with_reducible apply c_markDatumSL | with_reducible apply ih)))
  all_goals (try (first | exact z | ((first | refine rowGet ?_ | refine getC ?_ rfl); (first | omega | (simp only [std, stdM]; omega) | grind)) | (refine set_row ?_; (simp only [List.length_map, List.length_set, mkTo_len]; omega)) | (refine mkToRow ?_; (first | omega | (simp only [std, stdM]; omega) | grind)) | (refine mkTo_row ?_ rfl; (first | omega | (simp only [std, stdM]; omega) | grind)) | (refine mkTo_step ?_ ?_; (first | omega | (simp only [std, stdM]; omega) | grind); (first | exact mkC_C _ _ | grind [sumBy_step, getD_mem', cC_eq, mkC_C, mkTo_all, snocI, snocS, rowSnoc])) | grind [sumBy_step, getD_mem', cC_eq, mkC_C, mkTo_all, snocI, snocS, rowSnoc])))
theorem c_markCoreS_s (x : Core) (n : Int) (h0 : 0 ≤ n) (h : n + sumBy cC x.kids ≤ 100000000000000) (ih : ∀ z ∈ x.kids, ∀ (n : Int) (h0 : 0 ≤ n) (h : n + sumBy cC z.kids ≤
 100000000000000), P_c_markCoreS z n)  : P_c_markCoreS x n := fnOK Tryz.call42 Tryz.func42 (.l (lc_markCoreS_sLa x n) (Sc_markCoreS_sLa x n h0 h ih) [0] [.s (li 0), .s (li n), .o
 (Ob.arr true 8 (List.map coreC x.kids))] 0 (.t (.f [] [Ob.arr true 8 (List.map coreC (seqM mkC cC x.kids n))] (AV.sv (li (n + (↑(sumBy cC x.kids) : Int))))) .q)) (by
  dsimp only [teasy, P_c_markCoreS, nthW, lc_markCoreS_sLa]
  have gl := cC_len x.kids
  with_reducible repeat' (first | apply And.intro | exact zR | exact ih | (intro; skip) | apply c_markIntS | apply c_markText | apply c_markDatumS | apply c_markDatumSL)
  all_goals (try simp only [std, stdM, inj] at *)
  all_goals with_reducible repeat' apply And.intro
  all_goals (try (first | with_reducible apply c_markIntS | with_reducible apply c_markText | with_reducible apply c_markDatumS | with_reducible apply c_markDatumSL | with_reducible apply ih | (simp only [← List.map_append]; first | with_reducible apply c_markIntS | with_reducible apply c_markText | with_reducible apply c_markDatumS | with_reducible apply c_markDatumSL | with_reducible apply ih)))
  all_goals (try (first | exact z | ((first | refine rowGet ?_ | refine getC ?_ rfl); (first | omega | (simp only [std, stdM]; omega) | grind)) | (refine set_row ?_; (simp only [List.length_map, List.length_set, mkTo_len]; omega)) | (refine mkToRow ?_; (first | omega | (simp only [std, stdM]; omega) | grind)) | (refine mkTo_row ?_ rfl; (first | omega | (simp only [std, stdM]; omega) | grind)) | (refine mkTo_step ?_ ?_; (first | omega | (simp only [std, stdM]; omega) | grind); (first | grind [mkTo_all, snocI, snocS, rowSnoc])) | grind [mkTo_all, snocI, snocS, rowSnoc])))
theorem c_markCoreS (x : Core) : ∀ (n : Int) (h0 : 0 ≤ n) (h : n + sumBy cC x.kids ≤ 100000000000000), P_c_markCoreS x n := Core.ind (P := fun x => ∀ (n : Int) (h0 : 0 ≤ n) (h : n + sumBy cC x.kids ≤ 100000000000000), P_c_markCoreS x n) (fun x ih n h0 h => c_markCoreS_s x n h0 h ih) x
theorem c_markCoreSL (L : List Core) (n : Int) (h0 : 0 ≤ n) (h : n + sumBy cC L ≤ 100000000000000) : P_c_markCoreS { (default : Core) with kids := L } n := c_markCoreS { (default : Core) with kids := L } n h0 h
abbrev P_c_markCore (x : Core) (n : Int) : Ct := ⟨17, [.arr true 1 (x.params.map intC), .arr true 4 (x.datum.items.map datumC), .arr true 8 (x.kids.map coreC)], [.agg [vI x.kind, vI x.number, .ref 0, vI x.datum.kind, vI x.datum.number, vS x.datum.text, .ref 1, .ref 2], li n], [.arr true 1 ((seqM mkI cOne x.params (n)).map intC), .arr true 4 ((seqM mkD cD x.datum.items (n + x.params.length)).map datumC), .arr true 8 ((seqM mkC cC x.kids (n + x.params.length + sumBy cD x.datum.items)).map coreC)], .sv (li (n + x.params.length + sumBy cD x.datum.items + sumBy cC x.kids))⟩
theorem c_markCore (x : Core) (n : Int) (h0 : 0 ≤ n) (h : n + (x.params.length + sumBy cD x.datum.items + sumBy cC x.kids : Nat) ≤ 100000000000000)  : P_c_markCore x n := fnOK
 Tryz.call17 Tryz.func17 (.d [.own true 1, .rd] (P_c_markIntS x.params n) (.d [.agg [none, none, none, some (true, 4)], .rd] (P_c_markDatum x.datum (n + (↑x.params.length : Int)))
 (.d [.own true 8, .rd] (P_c_markCoreS x (n + (↑x.params.length : Int) + (↑(sumBy cD x.datum.items) : Int))) (.f [] [Ob.arr true 1 (List.map intC (seqM mkI cOne x.params n)),
 Ob.arr true 4 (List.map datumC (seqM mkD cD x.datum.items (n + (↑x.params.length : Int)))), Ob.arr true 8 (List.map coreC (seqM mkC cC x.kids (n + (↑x.params.length : Int) +
 (↑(sumBy cD x.datum.items) : Int))))] (AV.sv (li (n + (↑x.params.length : Int) + (↑(sumBy cD x.datum.items) : Int) + (↑(sumBy cC x.kids) : Int)))))))) (by
  dsimp only [teasy, P_c_markCore]
  with_reducible repeat' (first | apply And.intro | exact zR | (intro; skip) | apply c_markIntS | apply c_markDatum | apply c_markCoreS | apply c_markCoreSL)
  all_goals (try simp only [std, stdM, inj] at *)
  all_goals with_reducible repeat' apply And.intro
  all_goals (try (first | with_reducible apply c_markIntS | with_reducible apply c_markDatum | with_reducible apply c_markCoreS | with_reducible apply c_markCoreSL | (simp only [← List.map_append]; first | with_reducible apply c_markIntS | with_reducible apply c_markDatum | with_reducible apply c_markCoreS | with_reducible apply c_markCoreSL)))
  all_goals (try (first | exact z | ((first | refine rowGet ?_ | refine getC ?_ rfl); (first | omega | (simp only [std, stdM]; omega) | grind)) | (refine set_row ?_; (simp only [List.length_map, List.length_set, mkTo_len]; omega)) | (refine mkToRow ?_; (first | omega | (simp only [std, stdM]; omega) | grind)) | (refine mkTo_row ?_ rfl; (first | omega | (simp only [std, stdM]; omega) | grind)) | (refine mkTo_step ?_ ?_; (first | omega | (simp only [std, stdM]; omega) | grind); (first | grind [snocI, snocS, rowSnoc])) | grind [snocI, snocS, rowSnoc])))
end Go.Proofs.YtgeegppaaggcjaaGreatDoor
end
section
namespace Go.Proofs.YtgeegppaaggcjaaGreatDoor
open Go Go.Proofs.YtgeegppaaggcjaaGreatDoor.Ab
set_option linter.unusedVariables false
set_option linter.unusedSimpArgs false
set_option maxHeartbeats 4000000
abbrev P_c_heldIntS (L : List Int) (n : Int) : Ct := ⟨43, [], [ll (L.map intC), li n], [], .sv (li (n + L.length))⟩
def lc_heldIntSLa (L : List Int) (n : Int) : Lp Nat := .mk 21 0 (fun x => [(0, ll (List.map intC L)), (1, hs x 1), (5, hs x 0)]) (fun x => []) (fun k => [.s (li (↑k : Int)), .s (li
 (n + (↑k : Int)))]) (fun k => k ≤ L.length ∧ L.length ≤ 9223372036854775807) (fun k => L.length - k) [.mk True (.exit 0) (fun x => [(1, hs x 0)]) (fun x => []) [.s (li (n +
 (↑L.length : Int)))], .mk False .ret (fun x => [(4, hs x 0)]) (fun x => []) [.s (li (-1 : Int))]]
theorem Sc_heldIntSLa (L : List Int) (n : Int) (h0 : 0 ≤ n) (h : n + (↑L.length : Int) ≤ 100000000000000) (hm : seqM mkI cOne L n = L) : Lp.Sem Tryz.prog (loopAt Tryz.f43 0)
 (lc_heldIntSLa L n) := lpOK (fun k => .z intC L (.i ((↑k : Int) < (↑(List.map intC L).length : Int)) (.x (↑k : Int) (List.map intC L) [cI (L.getD k 0)] (.i (L.getD k (0 : Int) ≠ n
 + (↑k : Int)) (.o 1 [] [.s (li (-1 : Int))]) (.r (n + (↑k : Int) + 1) (.r ((↑k : Int) + 1) (.g [] (k + 1) [.s (li ((↑k : Int) + 1)), .s (li (n + (↑k : Int) + 1))]))))) (.o 0 []
 [.s (li (n + (↑k : Int)))]))) (by
  intro k h; try dsimp only [teasy, nthW, lc_heldIntSLa] at h ⊢
  with_reducible repeat' (first | apply And.intro | exact zR | (intro; skip))
  all_goals (try simp only [std, stdM, inj] at *)
  all_goals with_reducible repeat' apply And.intro
  all_goals (try (first | exact z | ((first | refine rowGet ?_ | refine getC ?_ rfl); (first | omega | (simp only [std, stdM]; omega) | grind)) | (refine set_row ?_; (simp only [List.length_map, List.length_set, mkTo_len]; omega)) | (refine mkToRow ?_; (first | omega | (simp only [std, stdM]; omega) | grind)) | (refine mkTo_row ?_ rfl; (first | omega | (simp only [std, stdM]; omega) | grind)) | (refine mkTo_step ?_ ?_; (first | omega | (simp only [std, stdM]; omega) | grind); (first | grind [seqI_get hm, snocI, snocS, rowSnoc])) | grind [seqI_get hm, snocI, snocS, rowSnoc])))
theorem c_heldIntS (L : List Int) (n : Int) (h0 : 0 ≤ n) (h : n + L.length ≤ 100000000000000) (hm : seqM mkI cOne L n = L)  : P_c_heldIntS L n := fnOK Tryz.call43 Tryz.func43 (.l
 (lc_heldIntSLa L n) (Sc_heldIntSLa L n h0 h hm) [] [.s (li 0), .s (li n)] 0 (.t (.s (li (n + (↑L.length : Int)))) (.t (.s (li (-1 : Int))) .q))) (by
  dsimp only [teasy, P_c_heldIntS, nthW, lc_heldIntSLa]
  with_reducible repeat' (first | apply And.intro | exact zR | (intro; skip))
  all_goals (try simp only [std, stdM, inj] at *)
  all_goals with_reducible repeat' apply And.intro
  all_goals (try (first | exact z | ((first | refine rowGet ?_ | refine getC ?_ rfl); (first | omega | (simp only [std, stdM]; omega) | grind)) | (refine set_row ?_; (simp only [List.length_map, List.length_set, mkTo_len]; omega)) | (refine mkToRow ?_; (first | omega | (simp only [std, stdM]; omega) | grind)) | (refine mkTo_row ?_ rfl; (first | omega | (simp only [std, stdM]; omega) | grind)) | (refine mkTo_step ?_ ?_; (first | omega | (simp only [std, stdM]; omega) | grind); (first | grind [snocI, snocS, rowSnoc])) | grind [snocI, snocS, rowSnoc])))
abbrev P_c_heldDatumS (x : Datum) (n : Int) : Ct := ⟨93, [], [ll (x.items.map datumC), li n], [], .sv (li (n + sumBy cD x.items))⟩
def lc_heldDatumS_sLa (x : Datum) (n : Int) : Lp Nat := .mk 50 0 (fun x_1 => [(0, ll (List.map datumC x.items)), (1, hs x_1 1), (5, hs x_1 0)]) (fun x => []) (fun k => [.s (li (↑k
 : Int)), .s (li (n + (↑(sumBy cD (List.take k x.items)) : Int)))]) (fun k => k ≤ x.items.length ∧ x.items.length ≤ 9223372036854775807) (fun k => x.items.length - k) [.mk True
 (.exit 0) (fun x => [(1, hs x 0)]) (fun x => []) [.s (li (n + (↑(sumBy cD x.items) : Int)))], .mk False .ret (fun x => [(4, hs x 0)]) (fun x => []) [.s (li (-1 : Int))]]
theorem Sc_heldDatumS_sLa (x : Datum) (n : Int) (h0 : 0 ≤ n) (h : n + (↑(sumBy cD x.items) : Int) ≤ 100000000000000) (hm : seqM mkD cD x.items n = x.items) (ih : ∀ (z : Datum), z ∈
 x.items → ∀ (n : Int), 0 ≤ n → n + (↑(sumBy cD z.items) : Int) ≤ 100000000000000 → seqM mkD cD z.items n = z.items → OK (P_c_heldDatumS z n)) : Lp.Sem Tryz.prog (loopAt Tryz.f93
 0) (lc_heldDatumS_sLa x n) := lpOK (fun k => .z datumC x.items (.i ((↑k : Int) < (↑(List.map datumC x.items).length : Int)) (.x (↑k : Int) (List.map datumC x.items) (datumF
 (x.items.getD k default)) (.i ((x.items.getD k default).kind ≠ n + (↑(sumBy cD (List.take k x.items)) : Int)) (.o 1 [] [.s (li (-1 : Int))]) (.r (n + (↑(sumBy cD (List.take k
 x.items)) : Int) + 1) (.x (↑k : Int) (List.map datumC x.items) (datumF (x.items.getD k default)) (.i ((x.items.getD k default).number ≠ n + (↑(sumBy cD (List.take k x.items)) :
 Int) + 1) (.o 1 [] [.s (li (-1 : Int))]) (.r (n + (↑(sumBy cD (List.take k x.items)) : Int) + 1 + 1) (.w (.draw []) (.x (↑k : Int) (List.map datumC x.items) (datumF (x.items.getD
 k default)) (.d [.rd] (P_c_markText (n + (↑(sumBy cD (List.take k x.items)) : Int) + 1 + 1)) (.i ((x.items.getD k default).text.data.toList ≠ (mText (n + (↑(sumBy cD (List.take k
 x.items)) : Int) + 1 + 1)).data.toList) (.o 1 [] [.s (li (-1 : Int))]) (.r (n + (↑(sumBy cD (List.take k x.items)) : Int) + 1 + 1 + 1) (.x (↑k : Int) (List.map datumC x.items)
 (datumF (x.items.getD k default)) (.d [.rd, .rd] (P_c_heldDatumS (x.items.getD k default) (n + (↑(sumBy cD (List.take k x.items)) : Int) + 1 + 1 + 1)) (.i (n + (↑(sumBy cD
 (List.take k x.items)) : Int) + 1 + 1 + 1 + (↑(sumBy cD (x.items.getD k default).items) : Int) < 0) (.o 1 [] [.s (li (-1 : Int))]) (.r ((↑k : Int) + 1) (.g [] (k + 1) [.s (li ((↑k
 : Int) + 1)), .s (li (n + (↑(sumBy cD (List.take k x.items)) : Int) + 1 + 1 + 1 + (↑(sumBy cD (x.items.getD k default).items) : Int)))])))))))))))))))) (.o 0 [] [.s (li (n +
 (↑(sumBy cD (List.take k x.items)) : Int)))]))) (by
  intro k h; try dsimp only [teasy, nthW, lc_heldDatumS_sLa] at h ⊢
  have g0 := sumBy_takeLe cD x.items (k + 1)
  have g1 := fun hk : k < x.items.length => mkD_fix (seqM_get hm hk)
  with_reducible repeat' (first | apply And.intro | exact zR | exact ih | (intro; skip) | apply c_markText | apply ih)
  all_goals (try simp only [std, stdM, inj] at *)
  all_goals with_reducible repeat' apply And.intro
  all_goals (try (first | with_reducible apply c_markText | with_reducible apply ih | (simp only [← List.map_append]; first | with_reducible apply c_markText | with_reducible apply ih)))
  all_goals (try (first | exact z | ((first | refine rowGet ?_ | refine getC ?_ rfl); (first | omega | (simp only [std, stdM]; omega) | grind)) | (refine set_row ?_; (simp only [List.length_map, List.length_set, mkTo_len]; omega)) | (refine mkToRow ?_; (first | omega | (simp only [std, stdM]; omega) | grind)) | (refine mkTo_row ?_ rfl; (first | omega | (simp only [std, stdM]; omega) | grind)) | (refine mkTo_step ?_ ?_; (first | omega | (simp only [std, stdM]; omega) | grind); (first | grind [sumBy_step, getD_mem', cD_eq, snocI, snocS, rowSnoc])) | grind [sumBy_step, getD_mem', cD_eq, snocI, snocS, rowSnoc])))
theorem c_heldDatumS_s (x : Datum) (n : Int) (h0 : 0 ≤ n) (h : n + sumBy cD x.items ≤ 100000000000000) (hm : seqM mkD cD x.items n = x.items) (ih : ∀ z ∈ x.items, ∀ (n : Int) (h0 :
 0 ≤ n) (h : n + sumBy cD z.items ≤ 100000000000000) (hm : seqM mkD cD z.items n = z.items), P_c_heldDatumS z n)  : P_c_heldDatumS x n := fnOK Tryz.call93 Tryz.func93 (.l
 (lc_heldDatumS_sLa x n) (Sc_heldDatumS_sLa x n h0 h hm ih) [] [.s (li 0), .s (li n)] 0 (.t (.s (li (n + (↑(sumBy cD x.items) : Int)))) (.t (.s (li (-1 : Int))) .q))) (by
  dsimp only [teasy, P_c_heldDatumS, nthW, lc_heldDatumS_sLa]
  have gl := cD_len x.items
  with_reducible repeat' (first | apply And.intro | exact zR | exact ih | (intro; skip) | apply c_markText)
  all_goals (try simp only [std, stdM, inj] at *)
  all_goals with_reducible repeat' apply And.intro
  all_goals (try (first | with_reducible apply c_markText | with_reducible apply ih | (simp only [← List.map_append]; first | with_reducible apply c_markText | with_reducible apply ih)))
  all_goals (try (first | exact z | ((first | refine rowGet ?_ | refine getC ?_ rfl); (first | omega | (simp only [std, stdM]; omega) | grind)) | (refine set_row ?_; (simp only [List.length_map, List.length_set, mkTo_len]; omega)) | (refine mkToRow ?_; (first | omega | (simp only [std, stdM]; omega) | grind)) | (refine mkTo_row ?_ rfl; (first | omega | (simp only [std, stdM]; omega) | grind)) | (refine mkTo_step ?_ ?_; (first | omega | (simp only [std, stdM]; omega) | grind); (first | grind [mkTo_all, snocI, snocS, rowSnoc])) | grind [mkTo_all, snocI, snocS, rowSnoc])))
theorem c_heldDatumS (x : Datum) : ∀ (n : Int) (h0 : 0 ≤ n) (h : n + sumBy cD x.items ≤ 100000000000000) (hm : seqM mkD cD x.items n = x.items), P_c_heldDatumS x n := Datum.ind (P := fun x => ∀ (n : Int) (h0 : 0 ≤ n) (h : n + sumBy cD x.items ≤ 100000000000000) (hm : seqM mkD cD x.items n = x.items), P_c_heldDatumS x n) (fun x ih n h0 h hm => c_heldDatumS_s x n h0 h hm ih) x
theorem c_heldDatumSL (L : List Datum) (n : Int) (h0 : 0 ≤ n) (h : n + sumBy cD L ≤ 100000000000000) (hm : seqM mkD cD L n = L) : P_c_heldDatumS { (default : Datum) with items := L } n := c_heldDatumS { (default : Datum) with items := L } n h0 h hm
abbrev P_c_heldDatum (x : Datum) (n : Int) : Ct := ⟨44, [], [.agg [vI x.kind, vI x.number, vS x.text, vL (x.items.map datumC)], li n], [], .sv (li (n + sumBy cD x.items))⟩
theorem c_heldDatum (x : Datum) (n : Int) (h0 : 0 ≤ n) (h : n + (sumBy cD x.items : Nat) ≤ 100000000000000) (hm0 : seqM mkD cD x.items (n) = x.items)  : P_c_heldDatum x n := fnOK
 Tryz.call44 Tryz.func44 (.d [.rd, .rd] (P_c_heldDatumS x n) (.i (n + (↑(sumBy cD x.items) : Int) < 0) (.s (li (-1 : Int))) (.s (li (n + (↑(sumBy cD x.items) : Int)))))) (by
  dsimp only [teasy, P_c_heldDatum]
  with_reducible repeat' (first | apply And.intro | exact zR | (intro; skip) | apply c_heldDatumS | apply c_heldDatumSL)
  all_goals (try simp only [std, stdM, inj] at *)
  all_goals with_reducible repeat' apply And.intro
  all_goals (try (first | with_reducible apply c_heldDatumS | with_reducible apply c_heldDatumSL | (simp only [← List.map_append]; first | with_reducible apply c_heldDatumS | with_reducible apply c_heldDatumSL)))
  all_goals (try (first | exact z | ((first | refine rowGet ?_ | refine getC ?_ rfl); (first | omega | (simp only [std, stdM]; omega) | grind)) | (refine set_row ?_; (simp only [List.length_map, List.length_set, mkTo_len]; omega)) | (refine mkToRow ?_; (first | omega | (simp only [std, stdM]; omega) | grind)) | (refine mkTo_row ?_ rfl; (first | omega | (simp only [std, stdM]; omega) | grind)) | (refine mkTo_step ?_ ?_; (first | omega | (simp only [std, stdM]; omega) | grind); (first | grind [snocI, snocS, rowSnoc])) | grind [snocI, snocS, rowSnoc])))
abbrev P_c_heldCoreS (x : Core) (n : Int) : Ct := ⟨45, [], [ll (x.kids.map coreC), li n], [], .sv (li (n + sumBy cC x.kids))⟩
def lc_heldCoreS_sLa (x : Core) (n : Int) : Lp Nat := .mk 90 0 (fun x_1 => [(0, ll (List.map coreC x.kids)), (1, hs x_1 1), (5, hs x_1 0)]) (fun x => []) (fun k => [.s (li (↑k :
 Int)), .s (li (n + (↑(sumBy cC (List.take k x.kids)) : Int)))]) (fun k => k ≤ x.kids.length ∧ x.kids.length ≤ 9223372036854775807) (fun k => x.kids.length - k) [.mk True (.exit 0)
 (fun x => [(1, hs x 0)]) (fun x => []) [.s (li (n + (↑(sumBy cC x.kids) : Int)))], .mk False .ret (fun x => [(4, hs x 0)]) (fun x => []) [.s (li (-1 : Int))]]
theorem Sc_heldCoreS_sLa (x : Core) (n : Int) (h0 : 0 ≤ n) (h : n + (↑(sumBy cC x.kids) : Int) ≤ 100000000000000) (hm : seqM mkC cC x.kids n = x.kids) (ih : ∀ (z : Core), z ∈
 x.kids → ∀ (n : Int), 0 ≤ n → n + (↑(sumBy cC z.kids) : Int) ≤ 100000000000000 → seqM mkC cC z.kids n = z.kids → OK (P_c_heldCoreS z n)) : Lp.Sem Tryz.prog (loopAt Tryz.f45 0)
 (lc_heldCoreS_sLa x n) := lpOK (fun k => .z coreC x.kids (.i ((↑k : Int) < (↑(List.map coreC x.kids).length : Int)) (.x (↑k : Int) (List.map coreC x.kids) (coreF (x.kids.getD k
 default)) (.i ((x.kids.getD k default).kind ≠ n + (↑(sumBy cC (List.take k x.kids)) : Int)) (.o 1 [] [.s (li (-1 : Int))]) (.r (n + (↑(sumBy cC (List.take k x.kids)) : Int) + 1)
 (.x (↑k : Int) (List.map coreC x.kids) (coreF (x.kids.getD k default)) (.i ((x.kids.getD k default).number ≠ n + (↑(sumBy cC (List.take k x.kids)) : Int) + 1) (.o 1 [] [.s (li (-1
 : Int))]) (.r (n + (↑(sumBy cC (List.take k x.kids)) : Int) + 1 + 1) (.x (↑k : Int) (List.map coreC x.kids) (coreF (x.kids.getD k default)) (.d [.rd, .rd] (P_c_heldIntS
 (x.kids.getD k default).params (n + (↑(sumBy cC (List.take k x.kids)) : Int) + 1 + 1)) (.i (n + (↑(sumBy cC (List.take k x.kids)) : Int) + 1 + 1 + (↑(x.kids.getD k
 default).params.length : Int) < 0) (.o 1 [] [.s (li (-1 : Int))]) (.x (↑k : Int) (List.map coreC x.kids) (coreF (x.kids.getD k default)) (.i ((x.kids.getD k default).datum.kind ≠
 n + (↑(sumBy cC (List.take k x.kids)) : Int) + 1 + 1 + (↑(x.kids.getD k default).params.length : Int)) (.o 1 [] [.s (li (-1 : Int))]) (.r (n + (↑(sumBy cC (List.take k x.kids)) :
 Int) + 1 + 1 + (↑(x.kids.getD k default).params.length : Int) + 1) (.x (↑k : Int) (List.map coreC x.kids) (coreF (x.kids.getD k default)) (.i ((x.kids.getD k default).datum.number
 ≠ n + (↑(sumBy cC (List.take k x.kids)) : Int) + 1 + 1 + (↑(x.kids.getD k default).params.length : Int) + 1) (.o 1 [] [.s (li (-1 : Int))]) (.r (n + (↑(sumBy cC (List.take k
 x.kids)) : Int) + 1 + 1 + (↑(x.kids.getD k default).params.length : Int) + 1 + 1) (.w (.draw []) (.x (↑k : Int) (List.map coreC x.kids) (coreF (x.kids.getD k default)) (.d [.rd]
 (P_c_markText (n + (↑(sumBy cC (List.take k x.kids)) : Int) + 1 + 1 + (↑(x.kids.getD k default).params.length : Int) + 1 + 1)) (.i ((x.kids.getD k default).datum.text.data.toList
 ≠ (mText (n + (↑(sumBy cC (List.take k x.kids)) : Int) + 1 + 1 + (↑(x.kids.getD k default).params.length : Int) + 1 + 1)).data.toList) (.o 1 [] [.s (li (-1 : Int))]) (.r (n +
 (↑(sumBy cC (List.take k x.kids)) : Int) + 1 + 1 + (↑(x.kids.getD k default).params.length : Int) + 1 + 1 + 1) (.x (↑k : Int) (List.map coreC x.kids) (coreF (x.kids.getD k
 default)) (.d [.rd, .rd] (P_c_heldDatumS (x.kids.getD k default).datum (n + (↑(sumBy cC (List.take k x.kids)) : Int) + 1 + 1 + (↑(x.kids.getD k default).params.length : Int) + 1 +
 1 + 1)) (.i (n + (↑(sumBy cC (List.take k x.kids)) : Int) + 1 + 1 + (↑(x.kids.getD k default).params.length : Int) + 1 + 1 + 1 + (↑(sumBy cD (x.kids.getD k default).datum.items) :
 Int) < 0) (.o 1 [] [.s (li (-1 : Int))]) (.x (↑k : Int) (List.map coreC x.kids) (coreF (x.kids.getD k default)) (.d [.rd, .rd] (P_c_heldCoreS (x.kids.getD k default) (n + (↑(sumBy
 cC (List.take k x.kids)) : Int) + 1 + 1 + (↑(x.kids.getD k default).params.length : Int) + 1 + 1 + 1 + (↑(sumBy cD (x.kids.getD k default).datum.items) : Int))) (.i (n + (↑(sumBy
 cC (List.take k x.kids)) : Int) + 1 + 1 + (↑(x.kids.getD k default).params.length : Int) + 1 + 1 + 1 + (↑(sumBy cD (x.kids.getD k default).datum.items) : Int) + (↑(sumBy cC
 (x.kids.getD k default).kids) : Int) < 0) (.o 1 [] [.s (li (-1 : Int))]) (.r ((↑k : Int) + 1) (.g [] (k + 1) [.s (li ((↑k : Int) + 1)), .s (li (n + (↑(sumBy cC (List.take k
 x.kids)) : Int) + 1 + 1 + (↑(x.kids.getD k default).params.length : Int) + 1 + 1 + 1 + (↑(sumBy cD (x.kids.getD k default).datum.items) : Int) + (↑(sumBy cC (x.kids.getD k
 default).kids) : Int)))])))))))))))))))))))))))))))) (.o 0 [] [.s (li (n + (↑(sumBy cC (List.take k x.kids)) : Int)))]))) (by
  intro k h; try dsimp only [teasy, nthW, lc_heldCoreS_sLa] at h ⊢
  have g0 := sumBy_takeLe cC x.kids (k + 1)
  have g1 := fun hk : k < x.kids.length => mkC_fix (seqM_get hm hk)
  with_reducible repeat' (first | apply And.intro | exact zR | exact ih | (intro; skip) | apply c_heldIntS | apply c_markText | apply c_heldDatumS | apply c_heldDatumSL | apply ih)
  all_goals (try simp only [std, stdM, inj] at *)
  all_goals with_reducible repeat' apply And.intro
  all_goals (try (first | with_reducible apply c_heldIntS | with_reducible apply c_markText | with_reducible apply c_heldDatumS | with_reducible apply c_heldDatumSL | with_reducible apply ih | (simp only [← List.map_append]; first | with_reducible apply c_heldIntS | with_reducible apply c_markText | with_reducible apply c_heldDatumS | with_reducible apply c_heldDatumSL | with_reducible apply ih)))
  all_goals (try (first | exact z | ((first | refine rowGet ?_ | refine getC ?_ rfl); (first | omega | (simp only [std, stdM]; omega) | grind)) | (refine set_row ?_; (simp only [List.length_map, List.length_set, mkTo_len]; omega)) | (refine mkToRow ?_; (first | omega | (simp only [std, stdM]; omega) | grind)) | (refine mkTo_row ?_ rfl; (first | omega | (simp only [std, stdM]; omega) | grind)) | (refine mkTo_step ?_ ?_; (first | omega | (simp only [std, stdM]; omega) | grind); (first | grind [sumBy_step, getD_mem', cC_eq, snocI, snocS, rowSnoc])) | grind [sumBy_step, getD_mem', cC_eq, snocI, snocS, rowSnoc])))
theorem c_heldCoreS_s (x : Core) (n : Int) (h0 : 0 ≤ n) (h : n + sumBy cC x.kids ≤ 100000000000000) (hm : seqM mkC cC x.kids n = x.kids) (ih : ∀ z ∈ x.kids, ∀ (n : Int) (h0 : 0 ≤
 n) (h : n + sumBy cC z.kids ≤ 100000000000000) (hm : seqM mkC cC z.kids n = z.kids), P_c_heldCoreS z n)  : P_c_heldCoreS x n := fnOK Tryz.call45 Tryz.func45 (.l (lc_heldCoreS_sLa x
 n) (Sc_heldCoreS_sLa x n h0 h hm ih) [] [.s (li 0), .s (li n)] 0 (.t (.s (li (n + (↑(sumBy cC x.kids) : Int)))) (.t (.s (li (-1 : Int))) .q))) (by
  dsimp only [teasy, P_c_heldCoreS, nthW, lc_heldCoreS_sLa]
  have gl := cC_len x.kids
  with_reducible repeat' (first | apply And.intro | exact zR | exact ih | (intro; skip) | apply c_heldIntS | apply c_markText | apply c_heldDatumS | apply c_heldDatumSL)
  all_goals (try simp only [std, stdM, inj] at *)
  all_goals with_reducible repeat' apply And.intro
  all_goals (try (first | with_reducible apply c_heldIntS | with_reducible apply c_markText | with_reducible apply c_heldDatumS | with_reducible apply c_heldDatumSL | with_reducible apply ih | (simp only [← List.map_append]; first | with_reducible apply c_heldIntS | with_reducible apply c_markText | with_reducible apply c_heldDatumS | with_reducible apply c_heldDatumSL | with_reducible apply ih)))
  all_goals (try (first | exact z | ((first | refine rowGet ?_ | refine getC ?_ rfl); (first | omega | (simp only [std, stdM]; omega) | grind)) | (refine set_row ?_; (simp only [List.length_map, List.length_set, mkTo_len]; omega)) | (refine mkToRow ?_; (first | omega | (simp only [std, stdM]; omega) | grind)) | (refine mkTo_row ?_ rfl; (first | omega | (simp only [std, stdM]; omega) | grind)) | (refine mkTo_step ?_ ?_; (first | omega | (simp only [std, stdM]; omega) | grind); (first | grind [mkTo_all, snocI, snocS, rowSnoc])) | grind [mkTo_all, snocI, snocS, rowSnoc])))
theorem c_heldCoreS (x : Core) : ∀ (n : Int) (h0 : 0 ≤ n) (h : n + sumBy cC x.kids ≤ 100000000000000) (hm : seqM mkC cC x.kids n = x.kids), P_c_heldCoreS x n := Core.ind (P := fun x => ∀ (n : Int) (h0 : 0 ≤ n) (h : n + sumBy cC x.kids ≤ 100000000000000) (hm : seqM mkC cC x.kids n = x.kids), P_c_heldCoreS x n) (fun x ih n h0 h hm => c_heldCoreS_s x n h0 h hm ih) x
theorem c_heldCoreSL (L : List Core) (n : Int) (h0 : 0 ≤ n) (h : n + sumBy cC L ≤ 100000000000000) (hm : seqM mkC cC L n = L) : P_c_heldCoreS { (default : Core) with kids := L } n := c_heldCoreS { (default : Core) with kids := L } n h0 h hm
abbrev P_c_heldCore (x : Core) (n : Int) : Ct := ⟨18, [], [.agg [vI x.kind, vI x.number, vL (x.params.map intC), vI x.datum.kind, vI x.datum.number, vS x.datum.text, vL (x.datum.items.map datumC), vL (x.kids.map coreC)], li n], [], .sv (li (n + x.params.length + sumBy cD x.datum.items + sumBy cC x.kids))⟩
theorem c_heldCore (x : Core) (n : Int) (h0 : 0 ≤ n) (h : n + (x.params.length + sumBy cD x.datum.items + sumBy cC x.kids : Nat) ≤ 100000000000000) (hm0 : seqM mkI cOne x.params
 (n) = x.params) (hm1 : seqM mkD cD x.datum.items (n + x.params.length) = x.datum.items) (hm2 : seqM mkC cC x.kids (n + x.params.length + sumBy cD x.datum.items) = x.kids)  :
 P_c_heldCore x n := fnOK Tryz.call18 Tryz.func18 (.d [.rd, .rd] (P_c_heldIntS x.params n) (.i (n + (↑x.params.length : Int) < 0) (.s (li (-1 : Int))) (.d [.rd, .rd] (P_c_heldDatum
 x.datum (n + (↑x.params.length : Int))) (.i (n + (↑x.params.length : Int) + (↑(sumBy cD x.datum.items) : Int) < 0) (.s (li (-1 : Int))) (.d [.rd, .rd] (P_c_heldCoreS x (n +
 (↑x.params.length : Int) + (↑(sumBy cD x.datum.items) : Int))) (.i (n + (↑x.params.length : Int) + (↑(sumBy cD x.datum.items) : Int) + (↑(sumBy cC x.kids) : Int) < 0) (.s (li (-1
 : Int))) (.s (li (n + (↑x.params.length : Int) + (↑(sumBy cD x.datum.items) : Int) + (↑(sumBy cC x.kids) : Int)))))))))) (by
  dsimp only [teasy, P_c_heldCore]
  with_reducible repeat' (first | apply And.intro | exact zR | (intro; skip) | apply c_heldIntS | apply c_heldDatum | apply c_heldCoreS | apply c_heldCoreSL)
  all_goals (try simp only [std, stdM, inj] at *)
  all_goals with_reducible repeat' apply And.intro
  all_goals (try (first | with_reducible apply c_heldIntS | with_reducible apply c_heldDatum | with_reducible apply c_heldCoreS | with_reducible apply c_heldCoreSL | (simp only [← List.map_append]; first | with_reducible apply c_heldIntS | with_reducible apply c_heldDatum | with_reducible apply c_heldCoreS | with_reducible apply c_heldCoreSL)))
  all_goals (try (first | exact z | ((first | refine rowGet ?_ | refine getC ?_ rfl); (first | omega | (simp only [std, stdM]; omega) | grind)) | (refine set_row ?_; (simp only [List.length_map, List.length_set, mkTo_len]; omega)) | (refine mkToRow ?_; (first | omega | (simp only [std, stdM]; omega) | grind)) | (refine mkTo_row ?_ rfl; (first | omega | (simp only [std, stdM]; omega) | grind)) | (refine mkTo_step ?_ ?_; (first | omega | (simp only [std, stdM]; omega) | grind); (first | grind [snocI, snocS, rowSnoc])) | grind [snocI, snocS, rowSnoc])))
end Go.Proofs.YtgeegppaaggcjaaGreatDoor
end
section
namespace Go.Proofs.YtgeegppaaggcjaaGreatDoor
open Go Go.Proofs.YtgeegppaaggcjaaGreatDoor.Ab
set_option linter.unusedVariables false
set_option linter.unusedSimpArgs false
set_option maxHeartbeats 4000000
abbrev P_c_szDatumS (L : List Datum) (left : Int) : Ct := ⟨27, [], [ll (L.map datumC), li left], [], .sv (li (sz (L.length + sumBy wD L) left))⟩
abbrev P_c_szDatum (x : Datum) (left : Int) : Ct := ⟨10, [], [datumA x, li left], [], .sv (li (sz (wD x) left))⟩
def lc_szDatumSLa (L : List Datum) (left : Int) : Lp (Nat × Int) := .mk 27 0 (fun x => [(0, ll (List.map datumC L)), (1, hs x 1), (5, hs x 0)]) (fun x => []) (fun k => [.s (li
 (↑k.fst : Int)), .s (li k.snd)]) (fun k => k.fst ≤ L.length ∧ L.length ≤ 9223372036854775807 ∧ 0 ≤ k.snd ∧ k.snd ≤ left ∧ sz (sumBy wD (List.drop k.fst L)) k.snd = sz (L.length +
 sumBy wD L) left) (fun k => L.length - k.fst) [.mk (0 ≤ sz (L.length + sumBy wD L) left) (.exit 0) (fun x => [(1, hs x 0)]) (fun x => []) [.s (li (sz (L.length + sumBy wD L)
 left))], .mk (sz (L.length + sumBy wD L) left = (-1 : Int)) .ret (fun x => [(4, hs x 0)]) (fun x => []) [.s (li (-1 : Int))]]
theorem Sc_szDatumSLa (L : List Datum) (left : Int) (h0 : 0 ≤ left) (h : left ≤ 2147483647) (ih : ∀ (x : Datum), x ∈ L → ∀ (left : Int), 0 ≤ left → left ≤ 2147483647 → OK
 (P_c_szDatum x left)) : Lp.Sem Tryz.prog (loopAt Tryz.f27 0) (lc_szDatumSLa L left) := lpOK (fun k => .z datumC L (.i ((↑k.fst : Int) < (↑(List.map datumC L).length : Int)) (.x
 (↑k.fst : Int) (List.map datumC L) (datumF (L.getD k.fst default)) (.d [.rd, .rd] (P_c_szDatum (L.getD k.fst default) k.snd) (.i (sz (wD (L.getD k.fst default)) k.snd < 0) (.o 1
 [] [.s (li (-1 : Int))]) (.r ((↑k.fst : Int) + 1) (.g [] (k.fst + 1, sz (wD (L.getD k.fst default)) k.snd) [.s (li ((↑k.fst : Int) + 1)), .s (li (sz (wD (L.getD k.fst default))
 k.snd))]))))) (.o 0 [] [.s (li k.snd)]))) (by
  intro k h; try dsimp only [teasy, nthW, lc_szDatumSLa] at h ⊢
  obtain ⟨i, n⟩ := k
  simp only at *
  with_reducible repeat' (first | apply And.intro | exact zR | exact ih | (intro; skip) | apply ih)
  all_goals (try simp only [std, inj] at *)
  all_goals with_reducible repeat' apply And.intro
  all_goals (try (first | with_reducible apply ih | (simp only [← List.map_append]; first | with_reducible apply ih)))
  all_goals (try (first | exact z | grind [drop_get, sumBy, sz, getD_mem', snocI, snocS, rowSnoc])))
theorem c_szDatumS (L : List Datum) (left : Int) (h0 : 0 ≤ left) (h : left ≤ 2147483647) (ih : ∀ x ∈ L, ∀ (left : Int) (h0 : 0 ≤ left) (h : left ≤ 2147483647), P_c_szDatum x left) 
 : P_c_szDatumS L left := fnOK Tryz.call27 Tryz.func27 (.z datumC L (.r (left - (↑(List.map datumC L).length : Int)) (.i (left - (↑(List.map datumC L).length : Int) < 0) (.s (li (-1
 : Int))) (.l (lc_szDatumSLa L left) (Sc_szDatumSLa L left h0 h ih) [] [.s (li 0), .s (li (left - (↑(List.map datumC L).length : Int)))] (0, left - (↑L.length : Int)) (.t (.s (li
 (sz (L.length + sumBy wD L) left))) (.t (.s (li (-1 : Int))) .q)))))) (by
  dsimp only [teasy, P_c_szDatumS, nthW, lc_szDatumSLa]
  with_reducible repeat' (first | apply And.intro | exact zR | exact ih | (intro; skip))
  all_goals (try simp only [std, inj] at *)
  all_goals with_reducible repeat' apply And.intro
  all_goals (try (first | with_reducible apply ih | (simp only [← List.map_append]; first | with_reducible apply ih)))
  all_goals (try (first | exact z | grind [sz, snocI, snocS, rowSnoc])))
theorem c_szDatum_s (x : Datum) (left : Int) (h0 : 0 ≤ left) (h : left ≤ 2147483647) (ih : ∀ z ∈ x.items, ∀ (left : Int) (h0 : 0 ≤ left) (h : left ≤ 2147483647), P_c_szDatum z
 left)  : P_c_szDatum x left := fnOK Tryz.call10 Tryz.func10 (.h (x.text.data.toList.length ≤ 9223372036854775807) (.r (left - (↑x.text.data.toList.length : Int)) (.i (left -
 (↑x.text.data.toList.length : Int) < 0) (.s (li (-1 : Int))) (.d [.rd, .rd] (P_c_szDatumS x.items (left - (↑x.text.data.toList.length : Int))) (.i (sz (x.items.length + sumBy wD
 x.items) (left - (↑x.text.data.toList.length : Int)) < 0) (.s (li (-1 : Int))) (.s (li (sz (x.items.length + sumBy wD x.items) (left - (↑x.text.data.toList.length : Int))))))))))
 (by
  dsimp only [teasy, P_c_szDatum]
  with_reducible repeat' (first | apply And.intro | exact zR | exact ih | (intro; skip) | apply c_szDatumS | apply ih)
  all_goals (try simp only [std, inj] at *)
  all_goals with_reducible repeat' apply And.intro
  all_goals (try (first | with_reducible apply c_szDatumS | with_reducible apply ih | (simp only [← List.map_append]; first | with_reducible apply c_szDatumS | with_reducible apply ih)))
  all_goals (try (first | exact z | grind [wD_eq, sz, wS, snocI, snocS, rowSnoc])))
theorem c_szDatum (x : Datum) : ∀ (left : Int) (h0 : 0 ≤ left) (h : left ≤ 2147483647), P_c_szDatum x left := Datum.ind (P := fun x => ∀ (left : Int) (h0 : 0 ≤ left) (h : left ≤ 2147483647), P_c_szDatum x left) (fun x ih left h0 h => c_szDatum_s x left h0 h ih) x
end Go.Proofs.YtgeegppaaggcjaaGreatDoor
end
section
namespace Go.Proofs.YtgeegppaaggcjaaGreatDoor
open Go Go.Proofs.YtgeegppaaggcjaaGreatDoor.Ab
set_option linter.unusedVariables false
set_option linter.unusedSimpArgs false
set_option maxHeartbeats 4000000
abbrev P_c_toDatumS (L : List Datum) : Ct := ⟨32, [], [ll (L.map datumC)], [.arr true 4 (L.map datumC)], .sv (.one (.ref 0))⟩
abbrev P_c_toDatum (x : Datum) : Ct := ⟨12, [], [datumA x], datumO x, .sv (datumR x 0)⟩
def lc_toDatumSLa (L : List Datum) : Lp Nat := .mk 23 0 (fun x => [(0, ll (List.map datumC L)), (3, SV.one (AC.ref 0)), (4, hs x 0)]) (fun x => [ho x 1]) (fun k => [.s (li (↑k :
 Int)), .o (Ob.arr true 4 (List.map datumC (fillTo L k)))]) (fun k => k ≤ L.length ∧ L.length ≤ 9223372036854775807) (fun k => L.length - k) [.mk True (.exit 0) (fun x => [(3,
 SV.one (AC.ref 0))]) (fun x => [ho x 0]) [.o (Ob.arr true 4 (List.map datumC L))]]
theorem Sc_toDatumSLa (L : List Datum) (h : L.length + sumBy wD L ≤ 1048576) (ih : ∀ (x : Datum), x ∈ L → wD x ≤ 1048576 → OK (P_c_toDatum x)) : Lp.Sem Tryz.prog (loopAt Tryz.f32
 0) (lc_toDatumSLa L) := lpOK (fun k => .z datumC L (.i ((↑k : Int) < (↑(List.map datumC L).length : Int)) (.x (↑k : Int) (List.map datumC L) (datumF (L.getD k default)) (.d [.rd]
 (P_c_toDatum (L.getD k default)) (.p (0 ≤ (↑k : Int) ∧ (↑k : Int).toNat < (List.map datumC (fillTo L k)).length) (.w (.cells (datumF ((fillTo L k).getD (↑k : Int).toNat default)))
 (.p ((List.map datumC (fillTo L k))[(↑k : Int).toNat]? = some (datumF ((fillTo L k).getD (↑k : Int).toNat default))) (.r ((↑k : Int) + 1) (.g [0] (k + 1) [.s (li ((↑k : Int) +
 1)), .o (Ob.arr true 4 ((List.map datumC (fillTo L k)).set (↑k : Int).toNat (datumF (L.getD k default))))]))))))) (.o 0 [0] [.o (Ob.arr true 4 (List.map datumC (fillTo L k)))])))
 (by
  intro k h; try dsimp only [teasy, nthW, lc_toDatumSLa] at h ⊢
  with_reducible repeat' (first | apply And.intro | exact zR | exact ih | (intro; skip) | apply ih)
  all_goals (try simp only [std, inj] at *)
  all_goals with_reducible repeat' apply And.intro
  all_goals (try (first | with_reducible apply ih | (simp only [← List.map_append]; first | with_reducible apply ih)))
  all_goals (try (first | exact z | exact zF | grind [fillTo_all, getD_mem', sumBy_mem, snocI, snocS, rowSnoc])))
theorem c_toDatumS (L : List Datum) (h : L.length + sumBy wD L ≤ 1048576) (ih : ∀ x ∈ L, ∀ (h : wD x ≤ 1048576), P_c_toDatum x)  : P_c_toDatumS L := fnOK Tryz.call32 Tryz.func32 (.z
 datumC L (.p (0 ≤ (↑(List.map datumC L).length : Int) ∧ 56 * (↑(List.map datumC L).length : Int).toNat ≤ 281474976710656) (.l (lc_toDatumSLa L) (Sc_toDatumSLa L h ih) [0] [.s (li
 0), .o (Ob.arr true 4 (List.replicate (↑(List.map datumC L).length : Int).toNat [cI 0, cI 0, cS (ByteArray.mk #[]), Cell.list []]))] 0 (.t (.f [0] [Ob.arr true 4 (List.map datumC
 L)] (AV.sv (SV.one (AC.ref 0)))) .q)))) (by
  dsimp only [teasy, P_c_toDatumS, nthW, lc_toDatumSLa]
  with_reducible repeat' (first | apply And.intro | exact zR | exact ih | (intro; skip))
  all_goals (try simp only [std, inj] at *)
  all_goals with_reducible repeat' apply And.intro
  all_goals (try (first | with_reducible apply ih | (simp only [← List.map_append]; first | with_reducible apply ih)))
  all_goals (try (first | exact z | exact zF | grind [snocI, snocS, rowSnoc])))
theorem c_toDatum_s (x : Datum) (h : wD x ≤ 1048576) (ih : ∀ z ∈ x.items, ∀ (h : wD z ≤ 1048576), P_c_toDatum z)  : P_c_toDatum x := fnOK Tryz.call12 Tryz.func12 (.d [.rd]
 (P_c_toDatumS x.items) (.f [3] [Ob.arr true 4 (List.map datumC x.items)] (AV.sv (SV.agg [vI x.kind, vI x.number, vS x.text, AC.ref 0])))) (by
  dsimp only [teasy, P_c_toDatum]
  with_reducible repeat' (first | apply And.intro | exact zR | exact ih | (intro; skip) | apply c_toDatumS | apply ih)
  all_goals (try simp only [std, inj] at *)
  all_goals with_reducible repeat' apply And.intro
  all_goals (try (first | with_reducible apply c_toDatumS | with_reducible apply ih | (simp only [← List.map_append]; first | with_reducible apply c_toDatumS | with_reducible apply ih)))
  all_goals (try (first | exact z | exact zF | grind [wD_eq, wS, snocI, snocS, rowSnoc])))
theorem c_toDatum (x : Datum) : ∀ (h : wD x ≤ 1048576), P_c_toDatum x := Datum.ind (P := fun x => ∀ (h : wD x ≤ 1048576), P_c_toDatum x) (fun x ih h => c_toDatum_s x h ih) x
end Go.Proofs.YtgeegppaaggcjaaGreatDoor
end
section
namespace Go.Proofs.YtgeegppaaggcjaaGreatDoor
open Go Go.Proofs.YtgeegppaaggcjaaGreatDoor.Ab
set_option linter.unusedVariables false
set_option linter.unusedSimpArgs false
set_option maxHeartbeats 4000000
abbrev P_c_eqIntS (A : List Int) (B : List Int) : Ct := ⟨37, [], [ll (A.map intC), ll (B.map intC)], [], .sv (lb (decide (A = B)))⟩
def lc_eqIntSLa (A : List Int) (B : List Int) : Lp Nat := .mk 26 0 (fun x => [(0, ll (List.map intC A)), (1, ll (List.map intC B)), (5, hs x 0)]) (fun x => []) (fun k => [.s (li
 (↑k : Int))]) (fun k => k ≤ A.length ∧ A.length ≤ 9223372036854775807 ∧ A.length = B.length ∧ List.take k A = List.take k B) (fun k => A.length - k) [.mk (A = B) (.exit 0) (fun x
 => []) (fun x => []) [], .mk (A ≠ B) .ret (fun x => [(4, hs x 0)]) (fun x => []) [.s (lb false)]]
theorem Sc_eqIntSLa (A : List Int) (B : List Int) : Lp.Sem Tryz.prog (loopAt Tryz.f37 0) (lc_eqIntSLa A B) := lpOK (fun k => .z intC A (.i ((↑k : Int) < (↑(List.map intC A).length
 : Int)) (.w (.draw []) (.x (↑k : Int) (List.map intC A) [cI (A.getD k 0)] (.x (↑k : Int) (List.map intC B) [cI (B.getD k 0)] (.i (A.getD k (0 : Int) ≠ B.getD k 0) (.o 1 [] [.s (lb
 false)]) (.r ((↑k : Int) + 1) (.g [] (k + 1) [.s (li ((↑k : Int) + 1))])))))) (.o 0 [] []))) (by
  intro k h; try dsimp only [teasy, nthW, lc_eqIntSLa] at h ⊢
  with_reducible repeat' (first | apply And.intro | exact zR | (intro; skip))
  all_goals (try simp only [std, inj] at *)
  all_goals with_reducible repeat' apply And.intro
  all_goals (try (first | exact z | grind [take_eq, snocI, snocS, rowSnoc])))
theorem c_eqIntS (A B : List Int)  : P_c_eqIntS A B := fnOK Tryz.call37 Tryz.func37 (.z intC A (.z intC B (.i ((↑(List.map intC A).length : Int) ≠ (↑(List.map intC B).length : Int))
 (.s (lb false)) (.l (lc_eqIntSLa A B) (Sc_eqIntSLa A B) [] [.s (li 0)] 0 (.t (.s (lb true)) (.t (.s (lb false)) .q)))))) (by
  dsimp only [teasy, P_c_eqIntS, nthW, lc_eqIntSLa]
  with_reducible repeat' (first | apply And.intro | exact zR | (intro; skip))
  all_goals (try simp only [std, inj] at *)
  all_goals with_reducible repeat' apply And.intro
  all_goals (try (first | exact z | grind [snocI, snocS, rowSnoc])))
abbrev P_c_eqDatumS (A : List Datum) (B : List Datum) : Ct := ⟨39, [], [ll (A.map datumC), ll (B.map datumC)], [], .sv (lb (decide (A = B)))⟩
abbrev P_c_eqDatum (x : Datum) (y : Datum) : Ct := ⟨15, [], [datumA x, datumA y], [], .sv (lb (decide (x = y)))⟩
def lc_eqDatumSLa (A : List Datum) (B : List Datum) : Lp Nat := .mk 27 0 (fun x => [(0, ll (List.map datumC A)), (1, ll (List.map datumC B)), (5, hs x 0)]) (fun x => []) (fun k =>
 [.s (li (↑k : Int))]) (fun k => k ≤ A.length ∧ A.length ≤ 9223372036854775807 ∧ A.length = B.length ∧ List.take k A = List.take k B) (fun k => A.length - k) [.mk (A = B) (.exit 0)
 (fun x => []) (fun x => []) [], .mk (A ≠ B) .ret (fun x => [(4, hs x 0)]) (fun x => []) [.s (lb false)]]
theorem Sc_eqDatumSLa (A : List Datum) (B : List Datum) (ih : ∀ (x : Datum), x ∈ A → ∀ (y : Datum), OK (P_c_eqDatum x y)) : Lp.Sem Tryz.prog (loopAt Tryz.f39 0) (lc_eqDatumSLa A B)
 := lpOK (fun k => .z datumC A (.i ((↑k : Int) < (↑(List.map datumC A).length : Int)) (.w (.draw []) (.x (↑k : Int) (List.map datumC A) (datumF (A.getD k default)) (.x (↑k : Int)
 (List.map datumC B) (datumF (B.getD k default)) (.d [.rd, .rd] (P_c_eqDatum (A.getD k default) (B.getD k default)) (.b (!decide (A.getD k default = B.getD k default)) (.o 1 [] [.s
 (lb false)]) (.r ((↑k : Int) + 1) (.g [] (k + 1) [.s (li ((↑k : Int) + 1))]))))))) (.o 0 [] []))) (by
  intro k h; try dsimp only [teasy, nthW, lc_eqDatumSLa] at h ⊢
  with_reducible repeat' (first | apply And.intro | exact zR | exact ih | (intro; skip) | apply ih)
  all_goals (try simp only [std, inj] at *)
  all_goals with_reducible repeat' apply And.intro
  all_goals (try (first | with_reducible apply ih | (simp only [← List.map_append]; first | with_reducible apply ih)))
  all_goals (try (first | exact z | grind [take_eq, getD_mem', snocI, snocS, rowSnoc])))
theorem c_eqDatumS (A B : List Datum) (ih : ∀ x ∈ A, ∀ (y : Datum), P_c_eqDatum x y)  : P_c_eqDatumS A B := fnOK Tryz.call39 Tryz.func39 (.z datumC A (.z datumC B (.i ((↑(List.map
 datumC A).length : Int) ≠ (↑(List.map datumC B).length : Int)) (.s (lb false)) (.l (lc_eqDatumSLa A B) (Sc_eqDatumSLa A B ih) [] [.s (li 0)] 0 (.t (.s (lb true)) (.t (.s (lb
 false)) .q)))))) (by
  dsimp only [teasy, P_c_eqDatumS, nthW, lc_eqDatumSLa]
  with_reducible repeat' (first | apply And.intro | exact zR | exact ih | (intro; skip))
  all_goals (try simp only [std, inj] at *)
  all_goals with_reducible repeat' apply And.intro
  all_goals (try (first | with_reducible apply ih | (simp only [← List.map_append]; first | with_reducible apply ih)))
  all_goals (try (first | exact z | grind [snocI, snocS, rowSnoc])))
theorem c_eqDatum_s (x y : Datum) (ih : ∀ z ∈ x.items, ∀ (y : Datum), P_c_eqDatum z y)  : P_c_eqDatum x y := fnOK Tryz.call15 Tryz.func15 (.i (x.kind ≠ y.kind) (.s (lb false)) (.i
 (x.number ≠ y.number) (.s (lb false)) (.i (x.text.data.toList ≠ y.text.data.toList) (.s (lb false)) (.d [.rd, .rd] (P_c_eqDatumS x.items y.items) (.b (!decide (x.items = y.items))
 (.s (lb false)) (.s (lb true))))))) (by
  dsimp only [teasy, P_c_eqDatum]
  simp only [datumExt]
  with_reducible repeat' (first | apply And.intro | exact zR | exact ih | (intro; skip) | apply c_eqDatumS | apply ih)
  all_goals (try simp only [std, inj] at *)
  all_goals with_reducible repeat' apply And.intro
  all_goals (try (first | with_reducible apply c_eqDatumS | with_reducible apply ih | (simp only [← List.map_append]; first | with_reducible apply c_eqDatumS | with_reducible apply ih)))
  all_goals (try (first | exact z | grind [bytes_ext, snocI, snocS, rowSnoc])))
theorem c_eqDatum (x : Datum) : ∀ (y : Datum), P_c_eqDatum x y := Datum.ind (P := fun x => ∀ (y : Datum), P_c_eqDatum x y) (fun x ih y => c_eqDatum_s x y ih) x
abbrev P_c_eqCoreS (A : List Core) (B : List Core) : Ct := ⟨38, [], [ll (A.map coreC), ll (B.map coreC)], [], .sv (lb (decide (A = B)))⟩
abbrev P_c_eqCore (x : Core) (y : Core) : Ct := ⟨14, [], [coreA x, coreA y], [], .sv (lb (decide (x = y)))⟩
def lc_eqCoreSLa (A : List Core) (B : List Core) : Lp Nat := .mk 27 0 (fun x => [(0, ll (List.map coreC A)), (1, ll (List.map coreC B)), (5, hs x 0)]) (fun x => []) (fun k => [.s
 (li (↑k : Int))]) (fun k => k ≤ A.length ∧ A.length ≤ 9223372036854775807 ∧ A.length = B.length ∧ List.take k A = List.take k B) (fun k => A.length - k) [.mk (A = B) (.exit 0)
 (fun x => []) (fun x => []) [], .mk (A ≠ B) .ret (fun x => [(4, hs x 0)]) (fun x => []) [.s (lb false)]]
theorem Sc_eqCoreSLa (A : List Core) (B : List Core) (ih : ∀ (x : Core), x ∈ A → ∀ (y : Core), OK (P_c_eqCore x y)) : Lp.Sem Tryz.prog (loopAt Tryz.f38 0) (lc_eqCoreSLa A B) :=
 lpOK (fun k => .z coreC A (.i ((↑k : Int) < (↑(List.map coreC A).length : Int)) (.w (.draw []) (.x (↑k : Int) (List.map coreC A) (coreF (A.getD k default)) (.x (↑k : Int)
 (List.map coreC B) (coreF (B.getD k default)) (.d [.rd, .rd] (P_c_eqCore (A.getD k default) (B.getD k default)) (.b (!decide (A.getD k default = B.getD k default)) (.o 1 [] [.s
 (lb false)]) (.r ((↑k : Int) + 1) (.g [] (k + 1) [.s (li ((↑k : Int) + 1))]))))))) (.o 0 [] []))) (by
  intro k h; try dsimp only [teasy, nthW, lc_eqCoreSLa] at h ⊢
  with_reducible repeat' (first | apply And.intro | exact zR | exact ih | (intro; skip) | apply ih)
  all_goals (try simp only [std, inj] at *)
  all_goals with_reducible repeat' apply And.intro
  all_goals (try (first | with_reducible apply ih | (simp only [← List.map_append]; first | with_reducible apply ih)))
  all_goals (try (first | exact z | grind [take_eq, getD_mem', snocI, snocS, rowSnoc])))
theorem c_eqCoreS (A B : List Core) (ih : ∀ x ∈ A, ∀ (y : Core), P_c_eqCore x y)  : P_c_eqCoreS A B := fnOK Tryz.call38 Tryz.func38 (.z coreC A (.z coreC B (.i ((↑(List.map coreC
 A).length : Int) ≠ (↑(List.map coreC B).length : Int)) (.s (lb false)) (.l (lc_eqCoreSLa A B) (Sc_eqCoreSLa A B ih) [] [.s (li 0)] 0 (.t (.s (lb true)) (.t (.s (lb false))
 .q)))))) (by
  dsimp only [teasy, P_c_eqCoreS, nthW, lc_eqCoreSLa]
  with_reducible repeat' (first | apply And.intro | exact zR | exact ih | (intro; skip))
  all_goals (try simp only [std, inj] at *)
  all_goals with_reducible repeat' apply And.intro
  all_goals (try (first | with_reducible apply ih | (simp only [← List.map_append]; first | with_reducible apply ih)))
  all_goals (try (first | exact z | grind [snocI, snocS, rowSnoc])))
theorem c_eqCore_s (x y : Core) (ih : ∀ z ∈ x.kids, ∀ (y : Core), P_c_eqCore z y)  : P_c_eqCore x y := fnOK Tryz.call14 Tryz.func14 (.i (x.kind ≠ y.kind) (.s (lb false)) (.i
 (x.number ≠ y.number) (.s (lb false)) (.c [.rd, .rd] (c_eqIntS x.params y.params) (.b (!decide (x.params = y.params)) (.s (lb false)) (.c [.rd, .rd] (c_eqDatum x.datum y.datum)
 (.b (!decide (x.datum = y.datum)) (.s (lb false)) (.d [.rd, .rd] (P_c_eqCoreS x.kids y.kids) (.b (!decide (x.kids = y.kids)) (.s (lb false)) (.s (lb true)))))))))) (by
  dsimp only [teasy, P_c_eqCore]
  simp only [coreExt]
  with_reducible repeat' (first | apply And.intro | exact zR | exact ih | (intro; skip) | apply c_eqIntS | apply c_eqDatum | apply c_eqCoreS | apply ih)
  all_goals (try simp only [std, inj] at *)
  all_goals with_reducible repeat' apply And.intro
  all_goals (try (first | with_reducible apply c_eqIntS | with_reducible apply c_eqDatum | with_reducible apply c_eqCoreS | with_reducible apply ih | (simp only [← List.map_append]; first | with_reducible apply c_eqIntS | with_reducible apply c_eqDatum | with_reducible apply c_eqCoreS | with_reducible apply ih)))
  all_goals (try (first | exact z | grind [bytes_ext, snocI, snocS, rowSnoc])))
theorem c_eqCore (x : Core) : ∀ (y : Core), P_c_eqCore x y := Core.ind (P := fun x => ∀ (y : Core), P_c_eqCore x y) (fun x ih y => c_eqCore_s x y ih) x
end Go.Proofs.YtgeegppaaggcjaaGreatDoor
end
section
namespace Go.Proofs.YtgeegppaaggcjaaGreatDoor
open Go Go.Proofs.YtgeegppaaggcjaaGreatDoor.Ab
set_option linter.unusedVariables false
set_option linter.unusedSimpArgs false
set_option maxHeartbeats 4000000
theorem rcX_w (d : Datum) : wC (rcX d) ≤ 2 * wD d := by
  unfold rcX; split
  · exact reaC_w d
  · have : wC ⟨0, 0, [], lstD [], []⟩ = 0 := by decide
    omega
abbrev P_c_LRea (d : Datum) : Ct := ⟨4, [], [datumA d], [], .sv (lb true)⟩
theorem c_LRea (d : Datum)  : P_c_LRea d := fnOK Tryz.call4 Tryz.func4 (.d [.rd, .rd] (P_c_szDatum d 1048576) (.i (sz (wD d) (1048576 : Int) < 0) (.s (lb true)) (.d [.rd]
 (P_c_toDatum d) (.d [.rd] (P_c_sReadC d) (.d [.rd] (P_c_toDatum d) (.d [.rd] (P_c_iReadC d) (.c [.rd, .rd] (c_eqCore (rcX d) (rcX d)) (.b (!decide (rcX d = rcX d)) (.y true (.s
 (lb false))) (.i (rcB d ≠ rcB d) (.s (lb false)) (.w (.draw []) (.d [.rd] (P_c_toDatum d) (.c [.rd, .rd] (c_eqDatum d d) (.b (!decide (d = d)) (.s (lb false)) (.d [.agg [none,
 none, none, some (true, 4)], .rd] (P_c_markDatum d 1) (.y false (.c [.rd, .rd] (c_eqCore (rcX d) (rcX d)) (.b (!decide (rcX d = rcX d)) (.y true (.s (lb false))) (.i (rcB d ≠ rcB
 d) (.s (lb false)) (.d [.agg [none, none, some (true, 1), none, none, none, some (true, 4), some (true, 8)], .rd] (P_c_markCore (rcX d) 1) (.d [.rd, .rd] (P_c_heldCore (Core.mk
 (rcX d).kind (rcX d).number (seqM mkI cOne (rcX d).params 1) (Datum.mk (rcX d).datum.kind (rcX d).datum.number (rcX d).datum.text (seqM mkD cD (rcX d).datum.items (1 + (↑(rcX
 d).params.length : Int)))) (seqM mkC cC (rcX d).kids (1 + (↑(rcX d).params.length : Int) + (↑(sumBy cD (rcX d).datum.items) : Int)))) 1) (.y false (.i (1 + (↑(seqM mkI cOne (rcX
 d).params 1).length : Int) + (↑(sumBy cD (seqM mkD cD (rcX d).datum.items (1 + (↑(rcX d).params.length : Int)))) : Int) + (↑(sumBy cC (seqM mkC cC (rcX d).kids (1 + (↑(rcX
 d).params.length : Int) + (↑(sumBy cD (rcX d).datum.items) : Int)))) : Int) ≠ 1 + (↑(rcX d).params.length : Int) + (↑(sumBy cD (rcX d).datum.items) : Int) + (↑(sumBy cC (rcX
 d).kids) : Int)) (.s (lb false)) (.d [.rd] (P_c_toDatum d) (.d [.rd] (P_c_iReadC d) (.c [.rd, .rd] (c_eqCore (rcX d) (rcX d)) (.b (!decide (rcX d = rcX d)) (.y true (.s (lb
 false))) (.i (rcB d ≠ rcB d) (.s (lb false)) (.d [.rd, .rd] (P_c_heldCore (Core.mk (rcX d).kind (rcX d).number (seqM mkI cOne (rcX d).params 1) (Datum.mk (rcX d).datum.kind (rcX
 d).datum.number (rcX d).datum.text (seqM mkD cD (rcX d).datum.items (1 + (↑(rcX d).params.length : Int)))) (seqM mkC cC (rcX d).kids (1 + (↑(rcX d).params.length : Int) + (↑(sumBy
 cD (rcX d).datum.items) : Int)))) 1) (.y false (.i (1 + (↑(seqM mkI cOne (rcX d).params 1).length : Int) + (↑(sumBy cD (seqM mkD cD (rcX d).datum.items (1 + (↑(rcX
 d).params.length : Int)))) : Int) + (↑(sumBy cC (seqM mkC cC (rcX d).kids (1 + (↑(rcX d).params.length : Int) + (↑(sumBy cD (rcX d).datum.items) : Int)))) : Int) ≠ 1 + (↑(rcX
 d).params.length : Int) + (↑(sumBy cD (rcX d).datum.items) : Int) + (↑(sumBy cC (rcX d).kids) : Int)) (.s (lb false)) (.s (lb true)))))))))))))))))))))))))))))))) (by
  dsimp only [teasy, P_c_LRea]
  have h1 := cD_le d
  have h2 := cD_eq d
  have h3 := cC_le (rcX d)
  have h4 := cC_eq (rcX d)
  have h5 := rcX_w d
  with_reducible repeat' (first | apply And.intro | exact zR | (intro; skip) | apply c_szDatum | apply c_toDatum | apply c_eqCore | apply c_eqDatum | apply c_sReadC | apply c_iReadC | apply c_markDatum | apply c_markCore | apply c_heldCore)
  all_goals (try simp only [std, stdM, inj] at *)
  all_goals with_reducible repeat' apply And.intro
  all_goals (try (first | with_reducible apply c_szDatum | with_reducible apply c_toDatum | with_reducible apply c_eqCore | with_reducible apply c_eqDatum | with_reducible apply c_sReadC | with_reducible apply c_iReadC | with_reducible apply c_markDatum | with_reducible apply c_markCore | with_reducible apply c_heldCore | (simp only [← List.map_append]; first | with_reducible apply c_szDatum | with_reducible apply c_toDatum | with_reducible apply c_eqCore | with_reducible apply c_eqDatum | with_reducible apply c_sReadC | with_reducible apply c_iReadC | with_reducible apply c_markDatum | with_reducible apply c_markCore | with_reducible apply c_heldCore)))
  all_goals (try (first | exact z | ((first | refine rowGet ?_ | refine getC ?_ rfl); (first | omega | (simp only [std, stdM]; omega) | grind)) | (refine set_row ?_; (simp only [List.length_map, List.length_set, mkTo_len]; omega)) | (refine mkToRow ?_; (first | omega | (simp only [std, stdM]; omega) | grind)) | (refine mkTo_row ?_ rfl; (first | omega | (simp only [std, stdM]; omega) | grind)) | (refine mkTo_step ?_ ?_; (first | omega | (simp only [std, stdM]; omega) | grind); (first | grind [sz, seqM_idem, seqM_len, sum_seqM, snocI, snocS, rowSnoc])) | grind [sz, seqM_idem, seqM_len, sum_seqM, snocI, snocS, rowSnoc])))
end Go.Proofs.YtgeegppaaggcjaaGreatDoor
end
section
namespace Go.Proofs.YtgeegppaaggcjaaGreatDoor.fnExactReadCore
open Go Go.ChangeShapes Go.WideShapes Go.ChangeAt Go.RowKit Go.Proofs.YtgeegppaaggcjaaGreatDoor.Ab
set_option linter.unusedVariables false
theorem own : ownKnob Tryz.prog.godebug = none := by kernel_rfl
theorem laidO : laidOutB Tryz.prog = true := by kernel_rfl
theorem rowed : mapsRowed Tryz.prog = true := by kernel_rfl
theorem sized : ((List.range Tryz.prog.types.size).all fun t => match Tryz.prog.underlying t with | some (.slice e) => decide (0 < Tryz.prog.cellsOf e) | _ => true) = true := by kernel_rfl
theorem gTab : Tryz.prog.globalNamed pow10N = some 0 := by kernel_rfl
theorem gTabType : (Tryz.prog.globals[0]?).map (·.type) = some 169 := by kernel_rfl
theorem cellsE : Tryz.prog.cellsOf 151 = 1 := by kernel_rfl
theorem cellsT : Tryz.prog.cellsOf 169 = 20 := by kernel_rfl
theorem rowTab : Rows.fnExactReadCoreRow.laid.drop 2 = (pow10N, Lib.tabData .u64 Lib.pow10Tab) :: Rows.fnExactReadCoreRow.laid.drop 3 := by kernel_rfl
theorem laid_drop {W : Go.World} : ∀ (k : Nat) (l : List (String × DataW PUnit.{1})), laidMet Tryz.prog l W → laidMet Tryz.prog (l.drop k) W
  | 0, _, h => h
  | k + 1, [], h => h
  | k + 1, _ :: r, h => laid_drop k r (laidMet.tail h)
theorem tab {W : Go.World} (h : laidMetH Tryz.prog Rows.fnExactReadCoreRow.laid W) : Lib.TabIs Tryz.prog W pow10N .u64 Lib.pow10Tab := by
  have h1 : laidMet Tryz.prog Rows.fnExactReadCoreRow.laid W := h
  have h2 := laid_drop 2 _ h1
  rw [rowTab] at h2
  exact Lib.tabIs_of_head gTab gTabType Tryz.underlying169 Tryz.underlying151 cellsE cellsT h2
theorem star : "*" ++ "errors.errorString" = "*errors.errorString" := by decide
theorem rowErr (u : TypeId) (h : Tryz.prog.typeName? 3 u = some "*errors.errorString") : u = 184 :=
  typeName_ptr_named (nm := "errors.errorString") (by rw [star]; kernel_rfl) (by kernel_rfl) (by decide) u (by rw [star]; exact h)
theorem errV {W : Go.World} (h : laidMetH Tryz.prog Rows.fnExactReadCoreRow.laid W) : ∃ t p, W.var? Tryz.prog "strconv.ErrSyntax" = some #[.iface t p] := by
  have h1 : laidMet Tryz.prog Rows.fnExactReadCoreRow.laid W := h
  have h2 := laid_drop 4 _ h1
  rw [show Rows.fnExactReadCoreRow.laid.drop 4 = ("strconv.ErrSyntax", Rows.laid_strconv_ErrSyntax) :: Rows.fnExactReadCoreRow.laid.drop 5 from by kernel_rfl] at h2
  obtain ⟨a, s, hv, _, _, _⟩ := laid_sentinel h2 (show Tryz.prog.globalNamed "strconv.ErrSyntax" = some 1 by kernel_rfl) (show (Tryz.prog.globals[1]?).map (·.type) = some 143 by kernel_rfl) Tryz.underlying143 rowErr Tryz.underlying184 Tryz.underlying186 rfl rfl Tryz.underlying9 (by kernel_rfl) (by kernel_rfl)
  exact ⟨_, _, hv⟩
theorem known {W : Go.World} (h : laidMetH Tryz.prog Rows.fnExactReadCoreRow.laid W) : Kn Tryz.prog W (allI W) := by
  have lt : ∀ {n : String} {g : Nat} {cs : Array Value}, Tryz.prog.globalNamed n = some g → W.var? Tryz.prog n = some cs → g < W.heap.size := fun {n g cs} hg hv => by
    rcases Nat.lt_or_ge g W.heap.size with e | e
    · exact e
    · unfold World.var? at hv; rw [hg, Option.bind_some, Array.getElem?_eq_none e] at hv; cases hv
  exact ⟨fun g hg => ⟨lt hg (tab h), fun _ hb => hb, _, tab h, rfl⟩, fun _ g hg => by obtain ⟨t, p, hv⟩ := errV h; exact ⟨lt hg hv, fun _ hb => hb, _, hv, t, p, rfl⟩⟩
set_option maxRecDepth 100000 in
theorem contract (H : Type) (enc : TypeId × Value → H) (W : Go.World) (base : Nat) (args : Array Value) (ds gs : List (DataW H)) (before : List MemPlace)
    (hval0 : ∀ (j : Nat) t v, Tryz.f4.params[j]? = some t → args[j]? = some v → Value.okWide Tryz.prog W .any base t v)
    (hW : DataW.Whole enc Tryz.prog Tryz.f4.params.toList Rows.fnExactReadCoreSpec.vars false W args.toList ds gs before) (hL : laidMetH Tryz.prog Rows.fnExactReadCoreRow.laid W) :
    Calls Tryz.prog 4 args W fun e W' => ∃ v, e = .returned v ∧ Rows.fnExactReadCoreSpec.post enc Tryz.prog Tryz.f4 false true false false W args v W' := by
  have hval : ∀ (j : Nat) t v, Tryz.f4.params[j]? = some t → args[j]? = some v → Value.okWide Tryz.prog W .any base t v := hval0
  have hW' := hW
  obtain ⟨p, q, hA0, hV, rfl, hfz, hnd⟩ := hW
  obtain ⟨rfl, rfl⟩ := trodVars_none hV
  have hA : DataW.TrodAll enc Tryz.prog W 0 (fun _ => true) true Tryz.f4.params.toList args.toList ds p := hA0
  rw [Tryz.params4] at hA hval
  have hA2 := hA
  clear hA0 hval0
  obtain ⟨v0, vs0, d0, ds0, p0, q0, hargs0, rfl, rfl, h0, r0⟩ := trodAll_cons hA
  obtain ⟨rfl, rfl, rfl⟩ := trodAll_nil r0
  obtain rfl : args = #[v0] := by cases args; simp_all
  obtain ⟨a0, c0⟩ := (let ⟨fuel, hf⟩ := h0; rd_datum fuel _ _ hf)
  have s0 : SVRel W (allI W) (obOf []) (datumA a0) v0 := agg_rel (let ⟨cs, h, _⟩ := okWide_struct Tryz.underlying35 (hval 0 35 v0 rfl rfl); ⟨cs, h⟩) c0
  refine (CallOK.kept (w := W) (vals := #[v0]) (c_LRea a0) (known hL) ⟨s0, trivial⟩).mono fun e W' ⟨he, hg, _⟩ => ?_
  subst he
  exact ⟨_, rfl, post_of_kept (pv := []) hW' (fun _ _ _ => (trodAll_cons_mk (shut_bool Tryz.underlying4 _) trodAll_mk0))
    (fun sp hsp => trodAll_kept laidO rowed sized hg (by decide +kernel) hA2 fun y hy => hsp y (by simpa using hy)) (fun _ _ => rfl) rfl
    hg (ok_one (by kernel_rfl) rfl (okWide_bool_mk Tryz.underlying4 _))⟩
def litsV : DataW PUnit.{1} → Array Value
  | .agg l => (l.map fun x => match x with | .lit (.int k n) => Value.int k n | _ => .bool false).toArray
  | _ => #[]
noncomputable def laidWorld (os : Os) : Go.World :=
  { World.holding Tryz.prog os ⟨#[.cells #[.string ⟨#[118, 97, 108, 117, 101, 32, 111, 117, 116, 32, 111, 102, 32, 114, 97, 110, 103, 101]⟩] 186, .cells #[.string ⟨#[105, 110, 118, 97, 108, 105, 100, 32, 115, 121, 110, 116, 97, 120]⟩] 186], #[], []⟩ with heap := ((((((World.holding Tryz.prog os ⟨#[.cells #[.string ⟨#[118, 97, 108, 117, 101, 32, 111, 117, 116, 32, 111, 102, 32, 114, 97, 110, 103, 101]⟩] 186, .cells #[.string ⟨#[105, 110, 118, 97, 108, 105, 100, 32, 115, 121, 110, 116, 97, 120]⟩] 186], #[], []⟩).heap.modify 2 fun | .cells _ t z => .cells #[.iface 184 (.pointer (some ⟨(World.holding Tryz.prog default ⟨#[], #[], []⟩).heap.size + 0, 0, none⟩))] t z | o => o).modify 1 fun | .cells _ t z => .cells #[.iface 184 (.pointer (some ⟨(World.holding Tryz.prog default ⟨#[], #[], []⟩).heap.size + 1, 0, none⟩))] t z | o => o).modify 3 fun | .cells _ t z => .cells (litsV Rows.laid_math_bits_deBruijn32tab) t z | o => o).modify 4 fun | .cells _ t z => .cells (litsV Rows.laid_math_bits_deBruijn64tab) t z | o => o).modify 0 fun | .cells _ t z => .cells (litsV Rows.laid_internal_strconv_uint64pow10) t z | o => o) }
abbrev arg0 : Array Value := #[.agg #[.int .i64 0, .int .i64 0, .string ⟨#[]⟩, .slice none 0 0]]
theorem laid_met (os : Os) : laidMet Tryz.prog Rows.fnExactReadCoreRow.laid ((laidWorld os).forCall (fun _ _ => 0) ⟨#[], arg0, []⟩).memory :=
  laidMet_of_run' 8 (by kernel_rfl) (by kernel_rfl)
theorem reads (os : Os) {H : Type} (enc : TypeId × Value → H) : ∃ places, DataW.whole enc Tryz.prog ((laidWorld os).forCall (fun _ _ => 0) ⟨#[], arg0, []⟩).memory Tryz.f4.params.toList Rows.fnExactReadCoreSpec.vars false arg0.toList 12 = some ([.agg [.lit (.int .i64 0), .lit (.int .i64 0), .lit (.string []), .nil]], [], places) :=
  ⟨[], by kernel_rfl⟩
set_option maxRecDepth 100000 in
theorem lifted (os : Os) (started : os.Started) (H : Type) (enc : TypeId × Value → H) (F : Stop.Interp) :
    ReturnsInHanded {} Tryz.checked os 4 .any ((OpenSpec.ofChange Rows.fnExactReadCoreSpec).preRow enc Tryz.prog Tryz.f4 Rows.fnExactReadCoreRow.domain false Rows.fnExactReadCoreRow.laid) (((OpenSpec.ofChange Rows.fnExactReadCoreSpec).at F).post enc Tryz.prog Tryz.f4 false true false false) := by
  obtain ⟨places, hx⟩ := reads os enc
  refine returnsInHanded_of_row (C := Tryz.checked) (s := OpenSpec.ofChange Rows.fnExactReadCoreSpec) own started (by kernel_rfl) Tryz.func4
    (witness_row_at (enc := enc) (C := Tryz.checked) false (laidWorld os) arg0 rfl (by kernel_rfl) (by kernel_rfl) (by kernel_rfl)
      (OpenSpec.preRow_of_cond 12 hx (by kernel_rfl) (fun k hk => by cases hk) (by kernel_rfl) (laid_met os))) ?_
  intro W base args ds gs before hval hW _ _ _ hL _ _
  exact contract H enc W base args ds gs before hval hW hL
set_option maxRecDepth 100000 in
set_option maxHeartbeats 0 in
theorem facts : joinedFacts Tryz.pinned.checked.prog 4 Tryz.f4 Rows.fnExactReadCoreSpec Rows.fnExactReadCoreRow = true := by
  delta joinedFacts
  with_reducible repeat' apply and_i
  all_goals (first | with_reducible exact enters | (rw [makes]; kernel_rfl) | (rw [lifts]; kernel_rfl) | decide +kernel | kernel_rfl)
theorem said : Rows.FnExactReadCoreSaid :=
  OpenClaim.holds_of_cond 4 Tryz.f4 rfl rfl rfl rfl rfl rfl rfl ⟨rfl, rfl, rfl, rfl, rfl⟩ rfl rfl rfl rfl rfl (by kernel_rfl) Tryz.func4 facts
    (of_decide_eq_true (by kernel_rfl)) (by unfold Func.isWrapper; first | (rw [if_pos (by decide +kernel)]; kernel_rfl) | (rw [if_neg (by decide +kernel)]; exact ⟨rfl, rfl⟩))
    (fun os started H enc _ F => by rw [OpenClaim.pre_eq_preRow]; exact lifted os started H enc F)
theorem plain (k : FuncId) (fn : Func) (hf : Tryz.pinned.checked.prog.funcNamed Rows.fnExactReadCoreRow.func = some k) (hfn : Tryz.pinned.checked.prog.funcs[k]? = some fn) :
    true = Tryz.pinned.checked.prog.looks [] ∧ ∀ (j : Nat) t, fn.params[j]? = some t → Tryz.pinned.checked.prog.wantsStandIn t = false := by
  obtain rfl : k = 4 := Option.some.inj ((show Tryz.prog.funcNamed Rows.fnExactReadCoreRow.func = some 4 by kernel_rfl).symm.trans hf) |>.symm
  obtain rfl : fn = Tryz.f4 := (Option.some.inj (Tryz.func4.symm.trans hfn)).symm
  refine ⟨by kernel_rfl, fun j t ht => ?_⟩
  rw [Tryz.params4] at ht
  have hm := Array.mem_of_getElem? ht
  have hall : ([35].all fun u => !Tryz.prog.wantsStandIn u) = true := by kernel_rfl
  exact (show Tryz.prog.wantsStandIn t = false by simpa using List.all_eq_true.1 hall t (by simpa using hm))
theorem proved : Rows.FnExactReadCoreCardSaid :=
  Claim7.holds_tied_plain_at .later [] _ _ _ _ said (fun _ h => by cases h) (by kernel_rfl) (fun _ h => by cases h) fnExactReadCore_row_tie rfl ⟨rfl, rfl⟩ (by kernel_rfl) rfl plain (by kernel_rfl)
end Go.Proofs.YtgeegppaaggcjaaGreatDoor.fnExactReadCore
end
