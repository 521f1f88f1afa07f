/- The law FnExactAlphaEqual holds: AlphaEqual answers as the reference's does. No condition. -/
import Derived.Test.YtehpjofddjmbpaaAl2
section
namespace Go.Proofs.Ytehpjofddjmbpaa
open Go Go.Proofs.Ytehpjofddjmbpaa.Ab
set_option linter.unusedVariables false
set_option linter.unusedSimpArgs false
set_option maxHeartbeats 4000000
def lookN (L : List Int) (n : Int) : Nat → Int
  | 0 => -1
  | k + 1 => if L.getD k default = n then k else lookN L n k
def lookL (L : List Int) (n : Int) : Int := lookN L n L.length
theorem lookN_lt (L : List Int) (n : Int) : ∀ k, -1 ≤ lookN L n k ∧ lookN L n k < k
  | 0 => by simp [lookN]
  | k + 1 => by have := lookN_lt L n k; unfold lookN; split <;> omega
theorem lookL_lt (L : List Int) (n : Int) : -1 ≤ lookL L n ∧ lookL L n < L.length := lookN_lt L n L.length
theorem lookN_append (L P : List Int) (n : Int) : ∀ k, k ≤ L.length → lookN (L ++ P) n k = lookN L n k
  | 0, _ => rfl
  | k + 1, h => by
    have e : (L ++ P).getD k default = L.getD k default := by
      simp only [List.getD_eq_getElem?_getD]; rw [List.getElem?_append_left (by omega)]
    unfold lookN; rw [e, lookN_append L P n k (by omega)]
theorem lookL_snoc (L : List Int) (x n : Int) : lookL (L ++ [x]) n = if x = n then (L.length : Int) else lookL L n := by
  unfold lookL
  rw [List.length_append, List.length_singleton, lookN]
  have e : (L ++ [x]).getD L.length default = x := by simp
  rw [e, lookN_append L [x] n L.length (Nat.le_refl _)]
theorem lookL_nil (n : Int) : lookL [] n = -1 := rfl
theorem lookN_none (L : List Int) (n : Int) : ∀ k, k ≤ L.length → (lookN L n k = -1 ↔ n ∉ L.take k)
  | 0, _ => by simp [lookN]
  | k + 1, h => by
    rw [take_get (by omega)]
    have := lookN_none L n k (by omega)
    have h2 := lookN_lt L n k
    unfold lookN
    simp only [List.mem_append, List.mem_singleton]
    split <;> grind
theorem lookL_none (L : List Int) (n : Int) : lookL L n = -1 ↔ n ∉ L := by
  have := lookN_none L n L.length (Nat.le_refl _); rwa [List.take_length] at this
def ascP : List (Int × Int) → Int → Option Int
  | [], _ => none
  | p :: r, n => match ascP r n with
    | some v => some v
    | none => if n = p.1 then some p.2 else none
def asc (A B : List Int) : Int → Option Int := ascP (A.zip B)
theorem ascP_snoc : ∀ (l : List (Int × Int)) (x y : Int), upd1 (ascP l) x (some y) = ascP (l ++ [(x, y)])
  | [], x, y => by funext n; simp only [upd1, ascP, List.nil_append]
  | p :: r, x, y => by
    funext n
    have h := congrFun (ascP_snoc r x y) n
    simp only [upd1, List.cons_append, ascP] at h ⊢
    rw [← h]; split <;> simp_all
theorem ascP_none : ∀ (l : List (Int × Int)) (n : Int), ascP l n = none ↔ n ∉ l.map Prod.fst
  | [], n => by simp [ascP]
  | p :: r, n => by
    have h := ascP_none r n
    simp only [ascP, List.map_cons, List.mem_cons]
    cases e : ascP r n with
    | none => rw [e] at h; simp at h; grind
    | some v => rw [e] at h; simp at h; grind
theorem ascP_del : ∀ (l r : List (Int × Int)) (x y : Int), x ∉ l.map Prod.fst → x ∉ r.map Prod.fst → upd1 (ascP (l ++ (x, y) :: r)) x none = ascP (l ++ r)
  | [], r, x, y, _, hr => by
    funext n
    simp only [upd1, List.nil_append, ascP]
    have h := (ascP_none r n).2
    split
    · rename_i e; subst e; exact (h hr).symm
    · cases ascP r n <;> simp_all
  | p :: l, r, x, y, hl, hr => by
    have ih := ascP_del l r x y (fun h => hl (List.mem_cons_of_mem _ h)) hr
    funext n
    have h := congrFun ih n
    have hx : x ≠ p.1 := fun e => hl (by rw [e]; exact List.mem_cons_self)
    simp only [upd1, List.cons_append, ascP] at h ⊢
    rw [← h]; split <;> simp_all
theorem asc_nil : zO = asc [] [] := by funext n; simp [zO, asc, ascP]
theorem asc_snoc {A B : List Int} {x y : Int} (h : A.length = B.length) : upd1 (asc A B) x (some y) = asc (A ++ [x]) (B ++ [y]) := by
  unfold asc; rw [ascP_snoc, List.zip_append h]; rfl
theorem asc_del {A B P Q : List Int} {x y : Int} (h : A.length = B.length) (h2 : P.length = Q.length) (hA : x ∉ A) (hP : x ∉ P) : upd1 (asc (A ++ x :: P) (B ++ y :: Q)) x none = asc (A ++ P) (B ++ Q) := by
  unfold asc
  rw [List.zip_append h, List.zip_append h, List.zip_cons_cons]
  refine ascP_del _ _ _ _ ?_ ?_
  · rw [List.map_fst_zip (by omega)]; exact hA
  · rw [List.map_fst_zip (by omega)]; exact hP
theorem asc_look : ∀ (m : Nat) (A B : List Int), A.length = m → B.length = m → ∀ n, asc A B n = if 0 ≤ lookL A n then some (B.getD (lookL A n).toNat default) else none
  | 0, A, B, hA, hB, n => by
    obtain rfl := List.length_eq_zero_iff.1 hA
    obtain rfl := List.length_eq_zero_iff.1 hB
    simp [asc, ascP, lookL_nil]
  | m + 1, A, B, hA, hB, n => by
    have eA : A = A.take m ++ [A.getD m 0] := by rw [← takeI (by omega), List.take_of_length_le (by omega)]
    have eB : B = B.take m ++ [B.getD m 0] := by rw [← takeI (by omega), List.take_of_length_le (by omega)]
    obtain ⟨A', x, rfl⟩ : ∃ A' x, A = A' ++ [x] := ⟨_, _, eA⟩
    obtain ⟨B', y, rfl⟩ : ∃ B' y, B = B' ++ [y] := ⟨_, _, eB⟩
    clear eA eB
    simp only [List.length_append, List.length_singleton] at hA hB
    have ih := asc_look m A' B' (by omega) (by omega) n
    rw [← asc_snoc (by omega), lookL_snoc]
    have h1 := lookL_lt A' n
    simp only [upd1]
    by_cases e : n = x
    · subst e
      rw [if_pos rfl, if_pos rfl, if_pos (by omega)]
      have : (A'.length : Int).toNat = B'.length := by omega
      rw [this]; simp
    · simp only [if_neg e, if_neg (fun e' : x = n => e e'.symm), ih]
      by_cases h : 0 ≤ lookL A' n
      · simp only [if_pos h]
        congr 1
        simp only [List.getD_eq_getElem?_getD]
        rw [List.getElem?_append_left (by omega)]
      · simp only [if_neg h]
theorem look_get : ∀ (L : List Int), L.Nodup → ∀ (i : Nat), i < L.length → lookL L (L.getD i default) = i := by
  intro L hn i hi
  have h1 := lookL_lt L (L.getD i default)
  have h2 : lookL L (L.getD i default) ≠ -1 := fun e => (lookL_none L _).1 e (getD_mem' hi)
  have h3 : ∀ k, k ≤ L.length → lookN L (L.getD i default) k ≠ -1 → L.getD (lookN L (L.getD i default) k).toNat default = L.getD i default := by
    intro k
    induction k with
    | zero => intro _ h; exact absurd rfl h
    | succ k ih =>
      intro hk h
      unfold lookN at h ⊢
      split
      · rename_i e; simpa using e
      · rename_i e; rw [if_neg e] at h; exact ih (by omega) h
  have h4 := h3 L.length (Nat.le_refl _) h2
  have h5 : (lookL L (L.getD i default)).toNat < L.length := by omega
  have e1 : ∀ j (hj : j < L.length), L.getD j default = L[j] := fun j hj => by simp [hj]
  have h6 : L[(lookL L (L.getD i default)).toNat] = L[i] := by
    rw [← e1 _ h5, ← e1 _ hi]; exact h4
  have := (List.getElem_inj hn).1 h6
  omega
theorem num_iff {A B : List Int} (hl : A.length = B.length) (hA : A.Nodup) (hB : B.Nodup) (n m : Int) :
    (lookL A n = lookL B m ∧ (0 ≤ lookL A n ∨ n = m)) ↔ ((asc A B n).isSome = (asc B A m).isSome ∧ ((asc A B n).isSome = true → (asc A B n).getD 0 = m ∧ (asc B A m).getD 0 = n) ∧ ((asc A B n).isSome = false → n = m)) := by
  rw [asc_look _ A B rfl hl.symm, asc_look _ B A rfl hl]
  have a1 := lookL_lt A n
  have b1 := lookL_lt B m
  have a2 := look_get A hA
  have b2 := look_get B hB
  by_cases h1 : 0 ≤ lookL A n
  · by_cases h2 : 0 ≤ lookL B m
    · simp only [if_pos h1, if_pos h2, Option.isSome_some, Option.getD_some, true_and]
      have c1 := b2 (lookL A n).toNat (by omega)
      have c2 := a2 (lookL B m).toNat (by omega)
      constructor
      · rintro ⟨e, _⟩
        refine ⟨fun _ => ⟨?_, ?_⟩, fun h => Bool.noConfusion h⟩
        · have d : ∀ k, k ≤ B.length → lookN B m k ≠ -1 → B.getD (lookN B m k).toNat default = m := by
            intro k
            induction k with
            | zero => intro _ h; exact absurd rfl h
            | succ k ih =>
              intro hk h
              unfold lookN at h ⊢
              split
              · rename_i e; simpa using e
              · rename_i e; rw [if_neg e] at h; exact ih (by omega) h
          have := d B.length (Nat.le_refl _) (by show lookL B m ≠ -1; omega)
          rw [e]; exact this
        · have d : ∀ k, k ≤ A.length → lookN A n k ≠ -1 → A.getD (lookN A n k).toNat default = n := by
            intro k
            induction k with
            | zero => intro _ h; exact absurd rfl h
            | succ k ih =>
              intro hk h
              unfold lookN at h ⊢
              split
              · rename_i e; simpa using e
              · rename_i e; rw [if_neg e] at h; exact ih (by omega) h
          have := d A.length (Nat.le_refl _) (by show lookL A n ≠ -1; omega)
          rw [← e]; exact this
      · rintro ⟨h, _⟩
        have := (h trivial).1
        rw [this] at c1
        exact ⟨by omega, .inl h1⟩
    · simp only [if_pos h1, if_neg h2, Option.isSome_some, Option.isSome_none]
      constructor
      · rintro ⟨e, _⟩; omega
      · rintro ⟨e, _⟩; exact Bool.noConfusion e
  · by_cases h2 : 0 ≤ lookL B m
    · simp only [if_neg h1, if_pos h2, Option.isSome_some, Option.isSome_none]
      constructor
      · rintro ⟨e, _⟩; omega
      · rintro ⟨e, _⟩; exact Bool.noConfusion e
    · simp only [if_neg h1, if_neg h2, Option.isSome_none, true_and]
      constructor
      · rintro ⟨_, e⟩; exact ⟨fun h => Bool.noConfusion h, fun _ => by omega⟩
      · rintro ⟨_, e⟩; exact ⟨by omega, .inr (e trivial)⟩
mutual
def alf : Core → Core → List Int → List Int → Bool
  | ⟨k, n, p, d, l⟩, ⟨k', n', p', d', l'⟩, A, B => decide (k = k') && decide (p.length = p'.length) && decide (l.length = l'.length) && decide (d = d') &&
      (if k = 2 ∨ k = 4 then decide (lookL A n = lookL B n' ∧ (0 ≤ lookL A n ∨ n = n')) else decide (n = n')) && alfs l l' (A ++ p) (B ++ p')
def alfs : List Core → List Core → List Int → List Int → Bool
  | x :: r, y :: t, A, B => alf x y A B && alfs r t A B
  | _, _, _, _ => true
end
def alf0 (a b : Core) (A B : List Int) : Bool := decide (a.kind = b.kind) && decide (a.params.length = b.params.length) && decide (a.kids.length = b.kids.length) && decide (a.datum = b.datum) &&
      (if a.kind = 2 ∨ a.kind = 4 then decide (lookL A a.number = lookL B b.number ∧ (0 ≤ lookL A a.number ∨ a.number = b.number)) else decide (a.number = b.number))
theorem alf_eq (a b : Core) (A B : List Int) : alf a b A B = (alf0 a b A B && alfs a.kids b.kids (A ++ a.params) (B ++ b.params)) := by cases a; cases b; simp only [alf, alf0]
theorem alfs_append : ∀ (l l' m m' : List Core) (A B : List Int), l.length = l'.length → alfs (l ++ m) (l' ++ m') A B = (alfs l l' A B && alfs m m' A B)
  | [], [], _, _, _, _, _ => by simp [alfs]
  | x :: r, y :: t, m, m', A, B, h => by
    simp only [List.cons_append, alfs, alfs_append r t m m' A B (by simpa using h), Bool.and_assoc]
  | [], _ :: _, _, _, _, _, h => by simp at h
  | _ :: _, [], _, _, _, _, h => by simp at h
theorem alfs_step {l l' : List Core} {A B : List Int} {k : Nat} (h : k < l.length) (hl : l.length = l'.length) : alfs (l.take (k + 1)) (l'.take (k + 1)) A B = (alfs (l.take k) (l'.take k) A B && alf (l.getD k default) (l'.getD k default) A B) := by
  rw [take_get h, take_get (by omega : k < l'.length), alfs_append _ _ _ _ _ _ (by simp; omega)]
  simp [alfs]
theorem alfs_take {l l' : List Core} {A B : List Int} {k : Nat} (h : k ≤ l.length) (hl : l.length = l'.length) (ht : alfs l l' A B = true) : alfs (l.take k) (l'.take k) A B = true := by
  have := alfs_append (l.take k) (l'.take k) (l.drop k) (l'.drop k) A B (by simp; omega)
  rw [List.take_append_drop, List.take_append_drop, ht] at this
  exact ((Bool.and_eq_true _ _).mp this.symm).1
abbrev P_c_sLook (L : List Int) (n : Int) : Prop := CallOK Try.prog 251 [] [ll (L.map intC), li n] [] (.sv (li (lookL L n)))
def Tc_sLookLa (L : List Int) (n : Int) (x0 : SV) : St := St.mk (regsOf 20 [(0, AV.sv (ll (List.map intC L))), (1, AV.sv (li n)), (5, AV.sv x0)]) [] 0 
def Lc_sLookLa (L : List Int) (n : Int) (k : Int) : St := Tc_sLookLa L n (li k) 
def Ic_sLookLa (L : List Int) (n : Int) : Nat → St → Prop := Head (Lc_sLookLa L n) (fun k => (-1 : Int) ≤ k ∧ k < (↑(List.length L) : Int) ∧ (↑(List.length L) : Int) ≤
 9223372036854775807 ∧ lookL L n = lookN L n (Int.toNat (k + 1))) fun k => Int.toNat (k + 1) 
def W0c_sLookLa (L : List Int) (n : Int) : St := St.mk (regsOf 20 []) [] 0 
def W1c_sLookLa (L : List Int) (n : Int) (x0 : SV) : St := St.mk (regsOf 20 [(4, AV.sv x0)]) [] 0 
def Yc_sLookLa (L : List Int) (n : Int) : List (Prop × AEx × St) := [(lookL L n = (-1 : Int), AEx.exit 0, W0c_sLookLa L n), (True, AEx.ret, W1c_sLookLa L n (li (lookL L n)))]
theorem Hc_sLookLa {L : List Int} {n : Int} {k : Int} {m : Nat} (h : (fun k => (-1 : Int) ≤ k ∧ k < (↑(List.length L) : Int) ∧ (↑(List.length L) : Int) ≤ 9223372036854775807 ∧
 lookL L n = lookN L n (Int.toNat (k + 1))) k) (hm : (fun k => Int.toNat (k + 1)) k = m) : Ic_sLookLa L n m (Lc_sLookLa L n k) := hm ▸ Head.mk h
theorem Ec_sLookLa {L : List Int} {n : Int} {k : Int} {x0 : SV} (h0 : x0 = (li k)) : Tc_sLookLa L n x0 = Lc_sLookLa L n k := by
  rw [h0]
  rfl
theorem EW1c_sLookLa {L : List Int} {n : Int} {x0 y0 : SV} (h0 : x0 = y0) : W1c_sLookLa L n x0 = W1c_sLookLa L n y0 := by rw [h0]
theorem run_c_sLookLa (L : List Int) (n : Int) (k : Int) : aexec Try.prog (loopAt Try.f251 0) (Lc_sLookLa L n k) [Orc.br [Orc.cells (intC (List.getD L (Int.toNat k) default)),
 Orc.br [Orc.ghost (Ghost.sel [] [4]), Orc.out 1] [Orc.ghost (Ghost.sel [] [0, 1, 5]), Orc.goto (Int.toNat (k - 1 + 1)) (Lc_sLookLa L n (k - 1))]] [Orc.ghost (Ghost.sel [] []),
 Orc.out 0]] (loopK (Ic_sLookLa L n) (Yc_sLookLa L n) (Int.toNat (k + 1))) = ((decide (0 ≤ k) = true → (0 ≤ k ∧ (List.map intC L)[Int.toNat k]? = some [cI (List.getD L (Int.toNat
 k) 0)]) ∧ (decide (List.getD L (Int.toNat k) 0 = n) = true → True ∧ W1c_sLookLa L n (li k) = W1c_sLookLa L n (li (lookL L n))) ∧ (decide (List.getD L (Int.toNat k) 0 = n) = false
 → rng IntKind.i64 (k - 1) ∧ Int.toNat (k - 1 + 1) < Int.toNat (k + 1) ∧ Tc_sLookLa L n (li (k - 1)) = Lc_sLookLa L n (k - 1) ∧ Ic_sLookLa L n (Int.toNat (k - 1 + 1)) (Lc_sLookLa L
 n (k - 1)))) ∧ (decide (0 ≤ k) = false → lookL L n = (-1 : Int) ∧ W0c_sLookLa L n = W0c_sLookLa L n)) := by kernel_rfl
theorem Sc_sLookLa (L : List Int) (n : Int)  : LoopSem Try.prog (loopAt Try.f251 0) (Ic_sLookLa L n) (Yc_sLookLa L n) := by
  refine LoopSem.ofHead wide fun k h => ⟨_, _, run_c_sLookLa L n k, ?_⟩
  have g : 0 ≤ k → lookN L n (k + 1).toNat = if L.getD k.toNat 0 = n then k else lookN L n (k - 1 + 1).toNat := by
    intro hk
    have e1 : (k + 1).toNat = k.toNat + 1 := by omega
    have e2 : (k - 1 + 1).toNat = k.toNat := by omega
    have e3 : ((k.toNat : Nat) : Int) = k := by omega
    rw [e1, e2, lookN, e3]; rfl
  have g2 : k = -1 → lookN L n (k + 1).toNat = -1 := fun e => by rw [e]; rfl
  with_reducible repeat' (first | apply And.intro | exact flatI | exact flatS | exact rowLens | (intro; skip) | apply obsN | apply obsC | apply obA | apply obM | apply obB | apply svA | apply tupA | apply lcA | apply lcS | apply svC | apply liC | apply lbC | apply lsC | apply vIc | apply vBc | apply vSc | apply vLc | apply mapC | apply mIc | apply mOc | apply mSc | apply mLc | apply Hc_sLookLa | apply Ec_sLookLa | apply EW1c_sLookLa)
  all_goals (try simp only [std] at *)
  all_goals (try (first | with_reducible rfl | omega | assumption | (refine (decide_eq_true ?_).symm; assumption) | (refine (decide_eq_false ?_).symm; assumption) | (refine rowGet ?_; (first | omega | (simp only [std]; omega) | grind)) | (refine getC ?_ rfl; (first | omega | (simp only [std]; omega) | grind)) | exact look_mI | exact look_mO | exact look_mO1 | exact look_mS | exact look_mL | exact upd_mI | exact upd_mO | exact del_mO | exact upd_mS | exact take_mL | (refine upd_mL ?_; grind) | (refine fill_step ?_ ?_; (first | omega | (simp only [std]; omega) | grind); (first | rfl | exact (Row.eq _).trans rfl)) | (refine fill_init ?_; (first | rfl | exact (Row.eq _).trans rfl)) | (show (_ : St) = _; rfl) | grind [snocI, snocS, rowSnoc]))
theorem run_c_sLook (L : List Int) (n : Int) : aexec Try.prog (Option.getD (Func.body Try.f251) Code.skip) (entry [] [ll (List.map intC L), li n] 20) [Orc.ghost (Ghost.sel [] [0,
 1, 5]), Orc.loop (Int.toNat ((↑(List.length L) : Int) - 1 + 1)) (Lc_sLookLa L n ((↑(List.length L) : Int) - 1)) (Ic_sLookLa L n) [(lookL L n = (-1 : Int), AEx.exit 0, W0c_sLookLa
 L n, [Orc.fin []]), (True, AEx.ret, W1c_sLookLa L n (li (lookL L n)), [Orc.fin []])]] (finK Try.prog [ResultVar.tmp 4] [] (AV.sv (li (lookL L n)))) = (List.length (List.map intC
 L) ≤ 9223372036854775807 → rng IntKind.i64 ((↑(List.length (List.map intC L)) : Int) - 1) ∧ Tc_sLookLa L n (li ((↑(List.length (List.map intC L)) : Int) - 1)) = Lc_sLookLa L n
 ((↑(List.length L) : Int) - 1) ∧ Ic_sLookLa L n (Int.toNat ((↑(List.length L) : Int) - 1 + 1)) (Lc_sLookLa L n ((↑(List.length L) : Int) - 1)) ∧ LoopSem Try.prog (loopAt Try.f251
 0) (Ic_sLookLa L n) (Yc_sLookLa L n) ∧ (lookL L n = (-1 : Int) → ObsEq [] [] ∧ AV.sv (li (-1 : Int)) = AV.sv (li (lookL L n))) ∧ (True → ObsEq [] [] ∧ AV.sv (li (lookL L n)) =
 AV.sv (li (lookL L n))) ∧ True) := by kernel_rfl
theorem c_sLook (L : List Int) (n : Int)  : P_c_sLook L n := by
  refine CallOK.ofRun wide (run_c_sLook L n) Try.call251 Try.func251 rfl rfl rfl ?_
  have g : ((L.length : Int) - 1 + 1).toNat = L.length := by omega
  with_reducible repeat' (first | apply And.intro | exact flatI | exact flatS | exact rowLens | (intro; skip) | apply obsN | apply obsC | apply obA | apply obM | apply obB | apply svA | apply tupA | apply lcA | apply lcS | apply svC | apply liC | apply lbC | apply lsC | apply vIc | apply vBc | apply vSc | apply vLc | apply mapC | apply mIc | apply mOc | apply mSc | apply mLc | apply Hc_sLookLa | apply Ec_sLookLa | apply Sc_sLookLa | apply EW1c_sLookLa)
  all_goals (try simp only [std] at *)
  all_goals (try (first | with_reducible rfl | omega | assumption | (refine (decide_eq_true ?_).symm; assumption) | (refine (decide_eq_false ?_).symm; assumption) | (refine rowGet ?_; (first | omega | (simp only [std]; omega) | grind)) | (refine getC ?_ rfl; (first | omega | (simp only [std]; omega) | grind)) | exact look_mI | exact look_mO | exact look_mO1 | exact look_mS | exact look_mL | exact upd_mI | exact upd_mO | exact del_mO | exact upd_mS | exact take_mL | (refine upd_mL ?_; grind) | (refine fill_step ?_ ?_; (first | omega | (simp only [std]; omega) | grind); (first | rfl | exact (Row.eq _).trans rfl)) | (refine fill_init ?_; (first | rfl | exact (Row.eq _).trans rfl)) | (show (_ : St) = _; rfl) | grind [lookL, snocI, snocS, rowSnoc]))
abbrev P_c_sAlpha (a : Core) (b : Core) (A : List Int) (B : List Int) : Prop := CallOK Try.prog 182 [] [coreA a, coreA b, ll (A.map intC), ll (B.map intC)] [] (.sv (lb (alf a b A B)))
def Tc_sAlpha_sLa (a : Core) (b : Core) (A : List Int) (B : List Int) (x0 : SV) : St := St.mk (regsOf 101 [(2, AV.sv (SV.one (AC.ref 0))), (3, AV.sv (SV.one (AC.ref 1))), (4, AV.sv
 (SV.one (AC.ptr 2 0))), (5, AV.sv (SV.one (AC.ptr 3 0))), (82, AV.sv (li (↑(List.length (List.map coreC (Core.kids a))) : Int))), (83, AV.sv x0)]) [Ob.arr true 1 (List.map intC A
 ++ List.map intC (Core.params a)), Ob.arr true 1 (List.map intC B ++ List.map intC (Core.params b)), Ob.box (vals (coreF a)), Ob.box (vals (coreF b))] 0 
def Lc_sAlpha_sLa (a : Core) (b : Core) (A : List Int) (B : List Int) (k : Nat) : St := Tc_sAlpha_sLa a b A B (li (↑k : Int)) 
def Ic_sAlpha_sLa (a : Core) (b : Core) (A : List Int) (B : List Int) : Nat → St → Prop := Head (Lc_sAlpha_sLa a b A B) (fun k => k ≤ List.length (Core.kids a) ∧ List.length
 (Core.kids a) ≤ 9223372036854775807 ∧ List.length (Core.kids a) = List.length (Core.kids b) ∧ alfs (List.take k (Core.kids a)) (List.take k (Core.kids b)) (A ++ Core.params a) (B
 ++ Core.params b) = true) fun k => List.length (Core.kids a) - k 
def W0c_sAlpha_sLa (a : Core) (b : Core) (A : List Int) (B : List Int) : St := St.mk (regsOf 101 []) [] 0 
def W1c_sAlpha_sLa (a : Core) (b : Core) (A : List Int) (B : List Int) (x0 : SV) : St := St.mk (regsOf 101 [(8, AV.sv x0)]) [] 0 
def Yc_sAlpha_sLa (a : Core) (b : Core) (A : List Int) (B : List Int) : List (Prop × AEx × St) := [(alfs (Core.kids a) (Core.kids b) (A ++ Core.params a) (B ++ Core.params b) =
 true, AEx.exit 0, W0c_sAlpha_sLa a b A B), (alfs (Core.kids a) (Core.kids b) (A ++ Core.params a) (B ++ Core.params b) = false, AEx.ret, W1c_sAlpha_sLa a b A B (lb false))]
theorem Hc_sAlpha_sLa {a : Core} {b : Core} {A : List Int} {B : List Int} {k : Nat} {m : Nat} (h : (fun k => k ≤ List.length (Core.kids a) ∧ List.length (Core.kids a) ≤
 9223372036854775807 ∧ List.length (Core.kids a) = List.length (Core.kids b) ∧ alfs (List.take k (Core.kids a)) (List.take k (Core.kids b)) (A ++ Core.params a) (B ++ Core.params
 b) = true) k) (hm : (fun k => List.length (Core.kids a) - k) k = m) : Ic_sAlpha_sLa a b A B m (Lc_sAlpha_sLa a b A B k) := hm ▸ Head.mk h
theorem Ec_sAlpha_sLa {a : Core} {b : Core} {A : List Int} {B : List Int} {k : Nat} {x0 : SV} (h0 : x0 = (li (↑k : Int))) : Tc_sAlpha_sLa a b A B x0 = Lc_sAlpha_sLa a b A B k := by
  rw [h0]
  rfl
theorem EW1c_sAlpha_sLa {a : Core} {b : Core} {A : List Int} {B : List Int} {x0 y0 : SV} (h0 : x0 = y0) : W1c_sAlpha_sLa a b A B x0 = W1c_sAlpha_sLa a b A B y0 := by rw [h0]
theorem run_c_sAlpha_sLa (a : Core) (b : Core) (A : List Int) (B : List Int) (k : Nat) : aexec Try.prog (loopAt Try.f182 0) (Lc_sAlpha_sLa a b A B k) [Orc.br [Orc.draw [],
 Orc.cells (coreF (List.getD (Core.kids a) k default)), Orc.cells (coreF (List.getD (Core.kids b) k default)), Orc.call [Mode.rd, Mode.rd, Mode.rd, Mode.rd] [] (AV.sv (lb (alf
 (List.getD (Core.kids a) k default) (List.getD (Core.kids b) k default) (A ++ Core.params a) (B ++ Core.params b)))), Orc.br [Orc.ghost (Ghost.sel [] [8]), Orc.out 1] [Orc.ghost
 (Ghost.sel [0, 1, 2, 3] [2, 3, 4, 5, 82, 83]), Orc.goto (List.length (Core.kids a) - (k + 1)) (Lc_sAlpha_sLa a b A B (k + 1))]] [Orc.ghost (Ghost.sel [] []), Orc.out 0]] (loopK
 (Ic_sAlpha_sLa a b A B) (Yc_sAlpha_sLa a b A B) (List.length (Core.kids a) - k)) = ((decide ((↑k : Int) < (↑(List.length (List.map coreC (Core.kids a))) : Int)) = true → (0 ≤ (↑k
 : Int) ∧ (List.map coreC (Core.kids a))[Int.toNat (↑k : Int)]? = some (coreF (List.getD (Core.kids a) k default))) ∧ (0 ≤ (↑k : Int) ∧ (List.map coreC (Core.kids b))[Int.toNat (↑k
 : Int)]? = some (coreF (List.getD (Core.kids b) k default))) ∧ CallOK Try.prog 182 [] [SV.agg (vals (coreF (List.getD (Core.kids a) k default))), SV.agg (vals (coreF (List.getD
 (Core.kids b) k default))), ll (List.map intC A ++ List.map intC (Core.params a)), ll (List.map intC B ++ List.map intC (Core.params b))] [] (AV.sv (lb (alf (List.getD (Core.kids
 a) k default) (List.getD (Core.kids b) k default) (A ++ Core.params a) (B ++ Core.params b)))) ∧ ((!alf (List.getD (Core.kids a) k default) (List.getD (Core.kids b) k default) (A
 ++ Core.params a) (B ++ Core.params b)) = true → alfs (Core.kids a) (Core.kids b) (A ++ Core.params a) (B ++ Core.params b) = false ∧ W1c_sAlpha_sLa a b A B (lb false) =
 W1c_sAlpha_sLa a b A B (lb false)) ∧ ((!alf (List.getD (Core.kids a) k default) (List.getD (Core.kids b) k default) (A ++ Core.params a) (B ++ Core.params b)) = false → rng
 IntKind.i64 ((↑k : Int) + 1) ∧ List.length (Core.kids a) - (k + 1) < List.length (Core.kids a) - k ∧ Tc_sAlpha_sLa a b A B (li ((↑k : Int) + 1)) = Lc_sAlpha_sLa a b A B (k + 1) ∧
 Ic_sAlpha_sLa a b A B (List.length (Core.kids a) - (k + 1)) (Lc_sAlpha_sLa a b A B (k + 1)))) ∧ (decide ((↑k : Int) < (↑(List.length (List.map coreC (Core.kids a))) : Int)) =
 false → alfs (Core.kids a) (Core.kids b) (A ++ Core.params a) (B ++ Core.params b) = true ∧ W0c_sAlpha_sLa a b A B = W0c_sAlpha_sLa a b A B)) := by kernel_rfl
theorem Sc_sAlpha_sLa (a : Core) (b : Core) (A : List Int) (B : List Int) (h : List.length A + wC a ≤ 2147483647 ∧ List.length B + wC b ≤ 2147483647) (ih : ∀ (z : Core), z ∈
 Core.kids a → ∀ (b : Core) (A B : List Int), List.length A + wC z ≤ 2147483647 ∧ List.length B + wC b ≤ 2147483647 → P_c_sAlpha z b A B)  : LoopSem Try.prog (loopAt Try.f182 0)
 (Ic_sAlpha_sLa a b A B) (Yc_sAlpha_sLa a b A B) := by
  refine LoopSem.ofHead wide fun k h => ⟨_, _, run_c_sAlpha_sLa a b A B k, ?_⟩
  have g1 := wC_eq a
  have g2 := wC_eq b
  have g3 := @sumBy_mem _ wC a.kids (a.kids.getD k default)
  have g4 := @sumBy_mem _ wC b.kids (b.kids.getD k default)
  have g5 := @alfs_step a.kids b.kids (A ++ a.params) (B ++ b.params) k
  have g6 := @alfs_take a.kids b.kids (A ++ a.params) (B ++ b.params) (k + 1)
  with_reducible repeat' (first | apply And.intro | exact flatI | exact flatS | exact rowLens | exact ih | (intro; skip) | apply obsN | apply obsC | apply obA | apply obM | apply obB | apply svA | apply tupA | apply lcA | apply lcS | apply svC | apply liC | apply lbC | apply lsC | apply vIc | apply vBc | apply vSc | apply vLc | apply mapC | apply mIc | apply mOc | apply mSc | apply mLc | apply Hc_sAlpha_sLa | apply Ec_sAlpha_sLa | apply EW1c_sAlpha_sLa | apply c_sEqData | apply c_l5Names | apply c_sLook | apply c_l2Ints | apply ih)
  all_goals (try simp only [std] at *)
  all_goals (try (first | with_reducible apply c_sEqData | with_reducible apply c_l5Names | with_reducible apply c_sLook | with_reducible apply c_l2Ints | with_reducible apply ih | (simp only [← List.map_append]; first | with_reducible apply c_sEqData | with_reducible apply c_l5Names | with_reducible apply c_sLook | with_reducible apply c_l2Ints | with_reducible apply ih)))
  all_goals (try (first | with_reducible rfl | omega | assumption | (refine (decide_eq_true ?_).symm; assumption) | (refine (decide_eq_false ?_).symm; assumption) | (refine rowGet ?_; (first | omega | (simp only [std]; omega) | grind)) | (refine getC ?_ rfl; (first | omega | (simp only [std]; omega) | grind)) | exact look_mI | exact look_mO | exact look_mO1 | exact look_mS | exact look_mL | exact upd_mI | exact upd_mO | exact del_mO | exact upd_mS | exact take_mL | (refine upd_mL ?_; grind) | (refine fill_step ?_ ?_; (first | omega | (simp only [std]; omega) | grind); (first | rfl | exact (Row.eq _).trans rfl)) | (refine fill_init ?_; (first | rfl | exact (Row.eq _).trans rfl)) | (show (_ : St) = _; rfl) | grind [getD_mem', snocI, snocS, rowSnoc]))
abbrev a1_c_sAlpha_s (a : Core) (b : Core) (A : List Int) (B : List Int) := (List.length (List.map coreC (Core.kids a)) ≤ 9223372036854775807 → Tc_sAlpha_sLa a b A B (li 0) =
 Lc_sAlpha_sLa a b A B 0 ∧ Ic_sAlpha_sLa a b A B (List.length (Core.kids a) - 0) (Lc_sAlpha_sLa a b A B 0) ∧ LoopSem Try.prog (loopAt Try.f182 0) (Ic_sAlpha_sLa a b A B)
 (Yc_sAlpha_sLa a b A B) ∧ (alfs (Core.kids a) (Core.kids b) (A ++ Core.params a) (B ++ Core.params b) = true → ObsEq [] [] ∧ AV.sv (lb true) = AV.sv (lb (alf a b A B))) ∧ (alfs
 (Core.kids a) (Core.kids b) (A ++ Core.params a) (B ++ Core.params b) = false → ObsEq [] [] ∧ AV.sv (lb false) = AV.sv (lb (alf a b A B))) ∧ True)
abbrev a3_c_sAlpha_s (a : Core) (b : Core) (A : List Int) (B : List Int) := [(alfs (Core.kids a) (Core.kids b) (A ++ Core.params a) (B ++ Core.params b) = true, AEx.exit 0,
 W0c_sAlpha_sLa a b A B, [Orc.fin []]), (alfs (Core.kids a) (Core.kids b) (A ++ Core.params a) (B ++ Core.params b) = false, AEx.ret, W1c_sAlpha_sLa a b A B (lb false), [Orc.fin
 []])]
abbrev a2_c_sAlpha_s (a : Core) (b : Core) (A : List Int) (B : List Int) := [Orc.br [Orc.fin []] [Orc.draw [(4, [2])], Orc.call [Mode.rd] [Ob.arr true 1 (List.map intC A)] (AV.sv
 (SV.one (AC.ref 0))), Orc.draw [(4, [11])], Orc.call [Mode.rd] [Ob.arr true 1 (List.map intC B)] (AV.sv (SV.one (AC.ref 0))), Orc.ghost (Ghost.sel [10, 19, 0, 1] [2, 3, 4, 5, 82,
 83]), Orc.loop (List.length (Core.kids a) - 0) (Lc_sAlpha_sLa a b A B 0) (Ic_sAlpha_sLa a b A B) (a3_c_sAlpha_s a b A B)]]
theorem run_c_sAlpha_s (a : Core) (b : Core) (A : List Int) (B : List Int) : aexec Try.prog (Option.getD (Func.body Try.f182) Code.skip) (entry [] [coreA a, coreA b, ll (List.map
 intC A), ll (List.map intC B)] 101) [Orc.br [Orc.bool true, Orc.bool true, Orc.bool true, Orc.fin []] [Orc.br [Orc.bool true, Orc.bool true, Orc.fin []] [Orc.br [Orc.bool true,
 Orc.fin []] [Orc.call [Mode.rd, Mode.rd] [] (AV.sv (lb (decide (Core.datum a = Core.datum b)))), Orc.br [Orc.fin []] [Orc.call [Mode.rd] [] (AV.sv (lb (decide (Core.kind a = 2 ∨
 Core.kind a = 4)))), Orc.br [Orc.call [Mode.rd, Mode.rd] [] (AV.sv (li (lookL A (Core.number a)))), Orc.call [Mode.rd, Mode.rd] [] (AV.sv (li (lookL B (Core.number b)))), Orc.br
 [Orc.bool true, Orc.fin []] [Orc.br (a2_c_sAlpha_s a b A B) [Orc.bool false, Orc.draw [(4, [2])], Orc.call [Mode.rd] [Ob.arr true 1 (List.map intC A)] (AV.sv (SV.one (AC.ref 0))),
 Orc.draw [(4, [11])], Orc.call [Mode.rd] [Ob.arr true 1 (List.map intC B)] (AV.sv (SV.one (AC.ref 0))), Orc.ghost (Ghost.sel [10, 19, 0, 1] [2, 3, 4, 5, 82, 83]), Orc.loop
 (List.length (Core.kids a) - 0) (Lc_sAlpha_sLa a b A B 0) (Ic_sAlpha_sLa a b A B) (a3_c_sAlpha_s a b A B)]]] (a2_c_sAlpha_s a b A B)]]]]] (finK Try.prog [ResultVar.tmp 8] []
 (AV.sv (lb (alf a b A B)))) = ((decide (Core.kind a ≠ Core.kind b) = true → true = true ∧ true = true ∧ true = true ∧ ObsEq [] [] ∧ AV.sv (lb false) = AV.sv (lb (alf a b A B))) ∧
 (decide (Core.kind a ≠ Core.kind b) = false → List.length (List.map intC (Core.params a)) ≤ 9223372036854775807 → List.length (List.map intC (Core.params b)) ≤ 9223372036854775807
 → (decide ((↑(List.length (List.map intC (Core.params a))) : Int) ≠ (↑(List.length (List.map intC (Core.params b))) : Int)) = true → true = true ∧ true = true ∧ ObsEq [] [] ∧
 AV.sv (lb false) = AV.sv (lb (alf a b A B))) ∧ (decide ((↑(List.length (List.map intC (Core.params a))) : Int) ≠ (↑(List.length (List.map intC (Core.params b))) : Int)) = false →
 List.length (List.map coreC (Core.kids a)) ≤ 9223372036854775807 → List.length (List.map coreC (Core.kids b)) ≤ 9223372036854775807 → (decide ((↑(List.length (List.map coreC
 (Core.kids a))) : Int) ≠ (↑(List.length (List.map coreC (Core.kids b))) : Int)) = true → true = true ∧ ObsEq [] [] ∧ AV.sv (lb false) = AV.sv (lb (alf a b A B))) ∧ (decide
 ((↑(List.length (List.map coreC (Core.kids a))) : Int) ≠ (↑(List.length (List.map coreC (Core.kids b))) : Int)) = false → P_c_sEqData (Core.datum a) (Core.datum b) ∧ ((!decide
 (Core.datum a = Core.datum b)) = true → ObsEq [] [] ∧ AV.sv (lb false) = AV.sv (lb (alf a b A B))) ∧ ((!decide (Core.datum a = Core.datum b)) = false → P_c_l5Names a ∧ (decide
 (Core.kind a = 2 ∨ Core.kind a = 4) = true → P_c_sLook A (Core.number a) ∧ P_c_sLook B (Core.number b) ∧ (decide (lookL A (Core.number a) ≠ lookL B (Core.number b)) = true → true
 = true ∧ ObsEq [] [] ∧ AV.sv (lb false) = AV.sv (lb (alf a b A B))) ∧ (decide (lookL A (Core.number a) ≠ lookL B (Core.number b)) = false → (decide (lookL A (Core.number a) < 0) =
 true → (decide (Core.number a ≠ Core.number b) = true → ObsEq [] [] ∧ AV.sv (lb false) = AV.sv (lb (alf a b A B))) ∧ (decide (Core.number a ≠ Core.number b) = false → P_c_l2Ints A
 ∧ (∀ (e : List Cell), e ∈ List.map intC (Core.params a) → ∀ (c : Cell), c ∈ e → ∃ v, c = Cell.lit v) ∧ (∀ (e : List Cell), e ∈ List.map intC (Core.params a) → List.length e = 1) ∧
 (List.length (List.map intC A) + List.length (List.map intC (Core.params a))) * 8 ≤ 140737488355328 ∧ P_c_l2Ints B ∧ (∀ (e : List Cell), e ∈ List.map intC (Core.params b) → ∀ (c :
 Cell), c ∈ e → ∃ v, c = Cell.lit v) ∧ (∀ (e : List Cell), e ∈ List.map intC (Core.params b) → List.length e = 1) ∧ (List.length (List.map intC B) + List.length (List.map intC
 (Core.params b))) * 8 ≤ 140737488355328 ∧ (a1_c_sAlpha_s a b A B))) ∧ (decide (lookL A (Core.number a) < 0) = false → false = false ∧ P_c_l2Ints A ∧ (∀ (e : List Cell), e ∈
 List.map intC (Core.params a) → ∀ (c : Cell), c ∈ e → ∃ v, c = Cell.lit v) ∧ (∀ (e : List Cell), e ∈ List.map intC (Core.params a) → List.length e = 1) ∧ (List.length (List.map
 intC A) + List.length (List.map intC (Core.params a))) * 8 ≤ 140737488355328 ∧ P_c_l2Ints B ∧ (∀ (e : List Cell), e ∈ List.map intC (Core.params b) → ∀ (c : Cell), c ∈ e → ∃ v, c
 = Cell.lit v) ∧ (∀ (e : List Cell), e ∈ List.map intC (Core.params b) → List.length e = 1) ∧ (List.length (List.map intC B) + List.length (List.map intC (Core.params b))) * 8 ≤
 140737488355328 ∧ (a1_c_sAlpha_s a b A B)))) ∧ (decide (Core.kind a = 2 ∨ Core.kind a = 4) = false → (decide (Core.number a ≠ Core.number b) = true → ObsEq [] [] ∧ AV.sv (lb
 false) = AV.sv (lb (alf a b A B))) ∧ (decide (Core.number a ≠ Core.number b) = false → P_c_l2Ints A ∧ (∀ (e : List Cell), e ∈ List.map intC (Core.params a) → ∀ (c : Cell), c ∈ e →
 ∃ v, c = Cell.lit v) ∧ (∀ (e : List Cell), e ∈ List.map intC (Core.params a) → List.length e = 1) ∧ (List.length (List.map intC A) + List.length (List.map intC (Core.params a))) *
 8 ≤ 140737488355328 ∧ P_c_l2Ints B ∧ (∀ (e : List Cell), e ∈ List.map intC (Core.params b) → ∀ (c : Cell), c ∈ e → ∃ v, c = Cell.lit v) ∧ (∀ (e : List Cell), e ∈ List.map intC
 (Core.params b) → List.length e = 1) ∧ (List.length (List.map intC B) + List.length (List.map intC (Core.params b))) * 8 ≤ 140737488355328 ∧ (a1_c_sAlpha_s a b A B)))))))) := by
 kernel_rfl
theorem c_sAlpha_s (a b : Core) (A B : List Int) (h : A.length + wC a ≤ 2147483647 ∧ B.length + wC b ≤ 2147483647) (ih : ∀ z ∈ a.kids, ∀ (b : Core) (A : List Int) (B : List Int) (h
 : A.length + wC z ≤ 2147483647 ∧ B.length + wC b ≤ 2147483647), P_c_sAlpha z b A B)  : P_c_sAlpha a b A B := by
  refine CallOK.ofRun wide (run_c_sAlpha_s a b A B) Try.call182 Try.func182 rfl rfl rfl ?_
  try delta a1_c_sAlpha_s a3_c_sAlpha_s a2_c_sAlpha_s
  have g1 := wC_eq a
  have g2 := wC_eq b
  with_reducible repeat' (first | apply And.intro | exact flatI | exact flatS | exact rowLens | exact ih | (intro; skip) | apply obsN | apply obsC | apply obA | apply obM | apply obB | apply svA | apply tupA | apply lcA | apply lcS | apply svC | apply liC | apply lbC | apply lsC | apply vIc | apply vBc | apply vSc | apply vLc | apply mapC | apply mIc | apply mOc | apply mSc | apply mLc | apply Hc_sAlpha_sLa | apply Ec_sAlpha_sLa | apply Sc_sAlpha_sLa | apply EW1c_sAlpha_sLa | apply c_sEqData | apply c_l5Names | apply c_sLook | apply c_l2Ints)
  all_goals (try simp only [std] at *)
  all_goals (try (first | with_reducible apply c_sEqData | with_reducible apply c_l5Names | with_reducible apply c_sLook | with_reducible apply c_l2Ints | with_reducible apply ih | (simp only [← List.map_append]; first | with_reducible apply c_sEqData | with_reducible apply c_l5Names | with_reducible apply c_sLook | with_reducible apply c_l2Ints | with_reducible apply ih)))
  all_goals (try (first | with_reducible rfl | omega | assumption | (refine (decide_eq_true ?_).symm; assumption) | (refine (decide_eq_false ?_).symm; assumption) | (refine rowGet ?_; (first | omega | (simp only [std]; omega) | grind)) | (refine getC ?_ rfl; (first | omega | (simp only [std]; omega) | grind)) | exact look_mI | exact look_mO | exact look_mO1 | exact look_mS | exact look_mL | exact upd_mI | exact upd_mO | exact del_mO | exact upd_mS | exact take_mL | (refine upd_mL ?_; grind) | (refine fill_step ?_ ?_; (first | omega | (simp only [std]; omega) | grind); (first | rfl | exact (Row.eq _).trans rfl)) | (refine fill_init ?_; (first | rfl | exact (Row.eq _).trans rfl)) | (show (_ : St) = _; rfl) | grind [alf_eq, alf0, alfs, snocI, snocS, rowSnoc]))
theorem c_sAlpha (a : Core) : ∀ (b : Core) (A : List Int) (B : List Int) (h : A.length + wC a ≤ 2147483647 ∧ B.length + wC b ≤ 2147483647), P_c_sAlpha a b A B := Core.ind (P := fun a => ∀ (b : Core) (A : List Int) (B : List Int) (h : A.length + wC a ≤ 2147483647 ∧ B.length + wC b ≤ 2147483647), P_c_sAlpha a b A B) (fun a ih b A B h => c_sAlpha_s a b A B h ih) a
abbrev P_c_sAlphaEqual (a : Core) (b : Core) : Prop := CallOK Try.prog 77 [] [coreA a, coreA b] [] (.sv (lb (valC a && valC b && alf a b [] [])))
theorem run_c_sAlphaEqual (a : Core) (b : Core) : aexec Try.prog (Option.getD (Func.body Try.f77) Code.skip) (entry [] [coreA a, coreA b] 16) [Orc.call [Mode.rd] [] (AV.sv (lb
 (valC a))), Orc.br [Orc.call [Mode.rd] [] (AV.sv (lb (valC b))), Orc.br [Orc.call [Mode.rd, Mode.rd, Mode.rd, Mode.rd] [] (AV.sv (lb (alf a b [] []))), Orc.fin []] [Orc.fin []]]
 [Orc.bool false, Orc.fin []]] (finK Try.prog [ResultVar.tmp 4] [] (AV.sv (lb (valC a && valC b && alf a b [] [])))) = (P_c_sValid a ∧ (valC a = true → P_c_sValid b ∧ (valC b =
 true → P_c_sAlpha a b [] [] ∧ ObsEq [] [] ∧ AV.sv (lb (alf a b [] [])) = AV.sv (lb (valC a && valC b && alf a b [] []))) ∧ (valC b = false → ObsEq [] [] ∧ AV.sv (lb false) = AV.sv
 (lb (valC a && valC b && alf a b [] [])))) ∧ (valC a = false → false = false ∧ ObsEq [] [] ∧ AV.sv (lb false) = AV.sv (lb (valC a && valC b && alf a b [] [])))) := by kernel_rfl
theorem c_sAlphaEqual (a b : Core) (h : wC a ≤ 90000000 ∧ wC b ≤ 90000000)  : P_c_sAlphaEqual a b := by
  refine CallOK.ofRun wide (run_c_sAlphaEqual a b) Try.call77 Try.func77 rfl rfl rfl ?_
  with_reducible repeat' (first | apply And.intro | exact flatI | exact flatS | exact rowLens | (intro; skip) | apply obsN | apply obsC | apply obA | apply obM | apply obB | apply svA | apply tupA | apply lcA | apply lcS | apply svC | apply liC | apply lbC | apply lsC | apply vIc | apply vBc | apply vSc | apply vLc | apply mapC | apply mIc | apply mOc | apply mSc | apply mLc | apply c_sValid | apply c_sAlpha)
  all_goals (try simp only [std] at *)
  all_goals (try (first | with_reducible apply c_sValid | with_reducible apply c_sAlpha | (simp only [← List.map_append]; first | with_reducible apply c_sValid | with_reducible apply c_sAlpha)))
  all_goals (try (first | with_reducible rfl | omega | assumption | (refine (decide_eq_true ?_).symm; assumption) | (refine (decide_eq_false ?_).symm; assumption) | (refine rowGet ?_; (first | omega | (simp only [std]; omega) | grind)) | (refine getC ?_ rfl; (first | omega | (simp only [std]; omega) | grind)) | exact look_mI | exact look_mO | exact look_mO1 | exact look_mS | exact look_mL | exact upd_mI | exact upd_mO | exact del_mO | exact upd_mS | exact take_mL | (refine upd_mL ?_; grind) | (refine fill_step ?_ ?_; (first | omega | (simp only [std]; omega) | grind); (first | rfl | exact (Row.eq _).trans rfl)) | (refine fill_init ?_; (first | rfl | exact (Row.eq _).trans rfl)) | (show (_ : St) = _; rfl) | grind [snocI, snocS, rowSnoc]))
theorem asc_put {A B P Q : List Int} {k : Nat} (hl : A.length = B.length) (hp : P.length = Q.length) (hk : k < P.length) : upd1 (asc (A ++ P.take k) (B ++ Q.take k)) (P.getD k 0) (some (Q.getD k 0)) = asc (A ++ P.take (k + 1)) (B ++ Q.take (k + 1)) := by
  rw [asc_snoc (by simp; omega), takeI hk, takeI (by omega : k < Q.length), List.append_assoc, List.append_assoc]
theorem dropI {L : List Int} {k : Nat} (h : k < L.length) : L.drop k = L.getD k 0 :: L.drop (k + 1) := drop_get h
theorem nodup_at {A P : List Int} {k : Nat} (h : (A ++ P).Nodup) (hk : k < P.length) : P.getD k 0 ∉ A ∧ P.getD k 0 ∉ P.drop (k + 1) := by
  have e : A ++ P = (A ++ P.take k) ++ (P.getD k 0 :: P.drop (k + 1)) := by rw [← dropI hk, List.append_assoc, List.take_append_drop]
  rw [e, List.nodup_append] at h
  refine ⟨fun hA => h.2.2 _ (List.mem_append_left _ hA) _ List.mem_cons_self rfl, ?_⟩
  exact (List.nodup_cons.1 h.2.1).1
theorem asc_drop {A B P Q : List Int} {k : Nat} (hl : A.length = B.length) (hp : P.length = Q.length) (hk : k < P.length) (hn : (A ++ P).Nodup) : upd1 (asc (A ++ P.drop k) (B ++ Q.drop k)) (P.getD k 0) none = asc (A ++ P.drop (k + 1)) (B ++ Q.drop (k + 1)) := by
  have h := nodup_at hn hk
  rw [dropI hk, dropI (by omega : k < Q.length)]
  exact asc_del hl (by simp; omega) h.1 h.2
theorem nodup_kid {A : List Int} {a x : Core} (h : (A ++ bnd a).Nodup) (hx : x ∈ a.kids) : (A ++ a.params ++ bnd x).Nodup := by
  rw [bnd_eq, ← List.append_assoc] at h
  refine List.Nodup.sublist ?_ h
  refine List.Sublist.append (List.Sublist.refl _) ?_
  obtain ⟨s, t, e⟩ := List.append_of_mem hx
  rw [e, List.flatMap_append, List.flatMap_cons]
  exact (List.sublist_append_left _ _).trans (List.sublist_append_right _ _)
theorem nodup_par {A : List Int} {a : Core} (h : (A ++ bnd a).Nodup) : (A ++ a.params).Nodup := by
  rw [bnd_eq, ← List.append_assoc] at h
  exact (List.nodup_append.1 h).1
theorem nodup_left {A P : List Int} (h : (A ++ P).Nodup) : A.Nodup := (List.nodup_append.1 h).1
abbrev P_c_iAlpha (a : Core) (b : Core) (A : List Int) (B : List Int) : Prop := CallOK Try.prog 183 [.map false kO (mO (asc A B)), .map false kO (mO (asc B A))] [coreA a, coreA b, .one (.mref 0), .one (.mref 1)] [.map false kO (mO (asc A B)), .map false kO (mO (asc B A))] (.sv (lb (alf a b A B)))
def Tc_iAlpha_sLc (a : Core) (b : Core) (A : List Int) (B : List Int) (x0 : SV) (x1 : Ob) (x2 : Ob) : St := St.mk (regsOf 176 [(2, AV.sv (SV.one (AC.mref 0))), (3, AV.sv (SV.one
 (AC.mref 1))), (4, AV.sv (SV.one (AC.ptr 2 0))), (5, AV.sv (SV.one (AC.ptr 3 0))), (14, AV.sv (lb (alfs (Core.kids a) (Core.kids b) (A ++ Core.params a) (B ++ Core.params b)))),
 (158, AV.sv (li (↑(List.length (List.map intC (Core.params a))) : Int))), (159, AV.sv x0)]) [x1, x2, Ob.box (vals (coreF a)), Ob.box (vals (coreF b))] 2 
def Lc_iAlpha_sLc (a : Core) (b : Core) (A : List Int) (B : List Int) (k : Nat) : St := Tc_iAlpha_sLc a b A B (li (↑k : Int)) (Ob.map false kO (mO (asc (A ++ List.drop k
 (Core.params a)) (B ++ List.drop k (Core.params b))))) (Ob.map false kO (mO (asc (B ++ List.drop k (Core.params b)) (A ++ List.drop k (Core.params a))))) 
def Ic_iAlpha_sLc (a : Core) (b : Core) (A : List Int) (B : List Int) : Nat → St → Prop := Head (Lc_iAlpha_sLc a b A B) (fun k => k ≤ List.length (Core.params a) ∧ List.length
 (Core.params a) ≤ 9223372036854775807 ∧ List.length (Core.params a) = List.length (Core.params b)) fun k => List.length (Core.params a) - k 
def W0c_iAlpha_sLc (a : Core) (b : Core) (A : List Int) (B : List Int) (x0 : Ob) (x1 : Ob) : St := St.mk (regsOf 176 [(14, AV.sv (lb (alfs (Core.kids a) (Core.kids b) (A ++
 Core.params a) (B ++ Core.params b))))]) [x0, x1] 2 
def Yc_iAlpha_sLc (a : Core) (b : Core) (A : List Int) (B : List Int) : List (Prop × AEx × St) := [(True, AEx.exit 4, W0c_iAlpha_sLc a b A B (Ob.map false kO (mO (asc A B)))
 (Ob.map false kO (mO (asc B A))))]
def Tc_iAlpha_sLb (a : Core) (b : Core) (A : List Int) (B : List Int) (x0 : SV) (x1 : SV) : St := St.mk (regsOf 176 [(2, AV.sv (SV.one (AC.mref 0))), (3, AV.sv (SV.one (AC.mref
 1))), (4, AV.sv (SV.one (AC.ptr 2 0))), (5, AV.sv (SV.one (AC.ptr 3 0))), (14, AV.sv x1), (135, AV.sv (li (↑(List.length (List.map coreC (Core.kids a))) : Int))), (136, AV.sv
 x0)]) [Ob.map false kO (mO (asc (A ++ Core.params a) (B ++ Core.params b))), Ob.map false kO (mO (asc (B ++ Core.params b) (A ++ Core.params a))), Ob.box (vals (coreF a)), Ob.box
 (vals (coreF b))] 2 
def Lc_iAlpha_sLb (a : Core) (b : Core) (A : List Int) (B : List Int) (k : Nat) : St := Tc_iAlpha_sLb a b A B (li (↑k : Int)) (lb (alfs (List.take k (Core.kids a)) (List.take k
 (Core.kids b)) (A ++ Core.params a) (B ++ Core.params b))) 
def Ic_iAlpha_sLb (a : Core) (b : Core) (A : List Int) (B : List Int) : Nat → St → Prop := Head (Lc_iAlpha_sLb a b A B) (fun k => k ≤ List.length (Core.kids a) ∧ List.length
 (Core.kids a) ≤ 9223372036854775807 ∧ List.length (Core.kids a) = List.length (Core.kids b) ∧ List.length (Core.params a) = List.length (Core.params b)) fun k => List.length
 (Core.kids a) - k 
def W0c_iAlpha_sLb (a : Core) (b : Core) (A : List Int) (B : List Int) (x0 : SV) : St := St.mk (regsOf 176 [(2, AV.sv (SV.one (AC.mref 0))), (3, AV.sv (SV.one (AC.mref 1))), (4,
 AV.sv (SV.one (AC.ptr 2 0))), (5, AV.sv (SV.one (AC.ptr 3 0))), (14, AV.sv x0)]) [Ob.map false kO (mO (asc (A ++ Core.params a) (B ++ Core.params b))), Ob.map false kO (mO (asc (B
 ++ Core.params b) (A ++ Core.params a))), Ob.box (vals (coreF a)), Ob.box (vals (coreF b))] 2 
def Yc_iAlpha_sLb (a : Core) (b : Core) (A : List Int) (B : List Int) : List (Prop × AEx × St) := [(True, AEx.exit 2, W0c_iAlpha_sLb a b A B (lb (alfs (Core.kids a) (Core.kids b)
 (A ++ Core.params a) (B ++ Core.params b))))]
def Tc_iAlpha_sLa (a : Core) (b : Core) (A : List Int) (B : List Int) (x0 : SV) (x1 : Ob) (x2 : Ob) : St := St.mk (regsOf 176 [(2, AV.sv (SV.one (AC.mref 0))), (3, AV.sv (SV.one
 (AC.mref 1))), (4, AV.sv (SV.one (AC.ptr 2 0))), (5, AV.sv (SV.one (AC.ptr 3 0))), (106, AV.sv (li (↑(List.length (List.map intC (Core.params a))) : Int))), (107, AV.sv x0)]) [x1,
 x2, Ob.box (vals (coreF a)), Ob.box (vals (coreF b))] 2 
def Lc_iAlpha_sLa (a : Core) (b : Core) (A : List Int) (B : List Int) (k : Nat) : St := Tc_iAlpha_sLa a b A B (li (↑k : Int)) (Ob.map false kO (mO (asc (A ++ List.take k
 (Core.params a)) (B ++ List.take k (Core.params b))))) (Ob.map false kO (mO (asc (B ++ List.take k (Core.params b)) (A ++ List.take k (Core.params a))))) 
def Ic_iAlpha_sLa (a : Core) (b : Core) (A : List Int) (B : List Int) : Nat → St → Prop := Head (Lc_iAlpha_sLa a b A B) (fun k => k ≤ List.length (Core.params a) ∧ List.length
 (Core.params a) ≤ 9223372036854775807 ∧ List.length (Core.params a) = List.length (Core.params b)) fun k => List.length (Core.params a) - k 
def W0c_iAlpha_sLa (a : Core) (b : Core) (A : List Int) (B : List Int) (x0 : Ob) (x1 : Ob) : St := St.mk (regsOf 176 [(2, AV.sv (SV.one (AC.mref 0))), (3, AV.sv (SV.one (AC.mref
 1))), (4, AV.sv (SV.one (AC.ptr 2 0))), (5, AV.sv (SV.one (AC.ptr 3 0)))]) [x0, x1, Ob.box (vals (coreF a)), Ob.box (vals (coreF b))] 2 
def Yc_iAlpha_sLa (a : Core) (b : Core) (A : List Int) (B : List Int) : List (Prop × AEx × St) := [(True, AEx.exit 0, W0c_iAlpha_sLa a b A B (Ob.map false kO (mO (asc (A ++
 Core.params a) (B ++ Core.params b)))) (Ob.map false kO (mO (asc (B ++ Core.params b) (A ++ Core.params a)))))]
theorem Hc_iAlpha_sLc {a : Core} {b : Core} {A : List Int} {B : List Int} {k : Nat} {m : Nat} (h : (fun k => k ≤ List.length (Core.params a) ∧ List.length (Core.params a) ≤
 9223372036854775807 ∧ List.length (Core.params a) = List.length (Core.params b)) k) (hm : (fun k => List.length (Core.params a) - k) k = m) : Ic_iAlpha_sLc a b A B m
 (Lc_iAlpha_sLc a b A B k) := hm ▸ Head.mk h
theorem Ec_iAlpha_sLc {a : Core} {b : Core} {A : List Int} {B : List Int} {k : Nat} {x0 : SV} {x1 : Ob} {x2 : Ob} (h0 : x0 = (li (↑k : Int))) (h1 : x1 = (Ob.map false kO (mO (asc
 (A ++ List.drop k (Core.params a)) (B ++ List.drop k (Core.params b)))))) (h2 : x2 = (Ob.map false kO (mO (asc (B ++ List.drop k (Core.params b)) (A ++ List.drop k (Core.params
 a)))))) : Tc_iAlpha_sLc a b A B x0 x1 x2 = Lc_iAlpha_sLc a b A B k := by
  rw [h0, h1, h2]
  rfl
theorem EW0c_iAlpha_sLc {a : Core} {b : Core} {A : List Int} {B : List Int} {x0 y0 : Ob} {x1 y1 : Ob} (h0 : x0 = y0) (h1 : x1 = y1) : W0c_iAlpha_sLc a b A B x0 x1 = W0c_iAlpha_sLc
 a b A B y0 y1 := by rw [h0, h1]
theorem run_c_iAlpha_sLc (a : Core) (b : Core) (A : List Int) (B : List Int) (k : Nat) : aexec Try.prog (loopAt Try.f183 2) (Lc_iAlpha_sLc a b A B k) [Orc.br [Orc.cells (intC
 (List.getD (Core.params a) k default)), Orc.upd (mO (upd1 (asc (A ++ List.drop k (Core.params a)) (B ++ List.drop k (Core.params b))) (List.getD (Core.params a) k 0) none)),
 Orc.cells (intC (List.getD (Core.params b) k default)), Orc.upd (mO (upd1 (asc (B ++ List.drop k (Core.params b)) (A ++ List.drop k (Core.params a))) (List.getD (Core.params b) k
 0) none)), Orc.ghost (Ghost.sel [0, 1, 2, 3] [2, 3, 4, 5, 14, 158, 159]), Orc.goto (List.length (Core.params a) - (k + 1)) (Lc_iAlpha_sLc a b A B (k + 1))] [Orc.ghost (Ghost.sel
 [0, 1] [14]), Orc.out 0]] (loopK (Ic_iAlpha_sLc a b A B) (Yc_iAlpha_sLc a b A B) (List.length (Core.params a) - k)) = ((decide ((↑k : Int) < (↑(List.length (List.map intC
 (Core.params a))) : Int)) = true → (0 ≤ (↑k : Int) ∧ (List.map intC (Core.params a))[Int.toNat (↑k : Int)]? = some [cI (List.getD (Core.params a) k 0)]) ∧ false = false ∧ UpdF
 (MK.d kO) (mO (asc (A ++ List.drop k (Core.params a)) (B ++ List.drop k (Core.params b)))) (mO (upd1 (asc (A ++ List.drop k (Core.params a)) (B ++ List.drop k (Core.params b)))
 (List.getD (Core.params a) k 0) none)) (Value.int IntKind.i64 (List.getD (Core.params a) k 0)) none ∧ (0 ≤ (↑k : Int) ∧ (List.map intC (Core.params b))[Int.toNat (↑k : Int)]? =
 some [cI (List.getD (Core.params b) k 0)]) ∧ false = false ∧ UpdF (MK.d kO) (mO (asc (B ++ List.drop k (Core.params b)) (A ++ List.drop k (Core.params a)))) (mO (upd1 (asc (B ++
 List.drop k (Core.params b)) (A ++ List.drop k (Core.params a))) (List.getD (Core.params b) k 0) none)) (Value.int IntKind.i64 (List.getD (Core.params b) k 0)) none ∧ rng
 IntKind.i64 ((↑k : Int) + 1) ∧ List.length (Core.params a) - (k + 1) < List.length (Core.params a) - k ∧ Tc_iAlpha_sLc a b A B (li ((↑k : Int) + 1)) (Ob.map false kO (mO (upd1
 (asc (A ++ List.drop k (Core.params a)) (B ++ List.drop k (Core.params b))) (List.getD (Core.params a) k 0) none))) (Ob.map false kO (mO (upd1 (asc (B ++ List.drop k (Core.params
 b)) (A ++ List.drop k (Core.params a))) (List.getD (Core.params b) k 0) none))) = Lc_iAlpha_sLc a b A B (k + 1) ∧ Ic_iAlpha_sLc a b A B (List.length (Core.params a) - (k + 1))
 (Lc_iAlpha_sLc a b A B (k + 1))) ∧ (decide ((↑k : Int) < (↑(List.length (List.map intC (Core.params a))) : Int)) = false → True ∧ W0c_iAlpha_sLc a b A B (Ob.map false kO (mO (asc
 (A ++ List.drop k (Core.params a)) (B ++ List.drop k (Core.params b))))) (Ob.map false kO (mO (asc (B ++ List.drop k (Core.params b)) (A ++ List.drop k (Core.params a))))) =
 W0c_iAlpha_sLc a b A B (Ob.map false kO (mO (asc A B))) (Ob.map false kO (mO (asc B A))))) := by kernel_rfl
theorem Hc_iAlpha_sLb {a : Core} {b : Core} {A : List Int} {B : List Int} {k : Nat} {m : Nat} (h : (fun k => k ≤ List.length (Core.kids a) ∧ List.length (Core.kids a) ≤
 9223372036854775807 ∧ List.length (Core.kids a) = List.length (Core.kids b) ∧ List.length (Core.params a) = List.length (Core.params b)) k) (hm : (fun k => List.length (Core.kids
 a) - k) k = m) : Ic_iAlpha_sLb a b A B m (Lc_iAlpha_sLb a b A B k) := hm ▸ Head.mk h
theorem Ec_iAlpha_sLb {a : Core} {b : Core} {A : List Int} {B : List Int} {k : Nat} {x0 : SV} {x1 : SV} (h0 : x0 = (li (↑k : Int))) (h1 : x1 = (lb (alfs (List.take k (Core.kids a))
 (List.take k (Core.kids b)) (A ++ Core.params a) (B ++ Core.params b)))) : Tc_iAlpha_sLb a b A B x0 x1 = Lc_iAlpha_sLb a b A B k := by
  rw [h0, h1]
  rfl
theorem EW0c_iAlpha_sLb {a : Core} {b : Core} {A : List Int} {B : List Int} {x0 y0 : SV} (h0 : x0 = y0) : W0c_iAlpha_sLb a b A B x0 = W0c_iAlpha_sLb a b A B y0 := by rw [h0]
theorem run_c_iAlpha_sLb (a : Core) (b : Core) (A : List Int) (B : List Int) (k : Nat) : aexec Try.prog (loopAt Try.f183 1) (Lc_iAlpha_sLb a b A B k) [Orc.br [Orc.draw [(14, [0,
 1])], Orc.br [Orc.cells (coreF (List.getD (Core.kids a) k default)), Orc.cells (coreF (List.getD (Core.kids b) k default)), Orc.call [Mode.rd, Mode.rd, Mode.map, Mode.map] [Ob.map
 false kO (mO (asc (A ++ Core.params a) (B ++ Core.params b))), Ob.map false kO (mO (asc (B ++ Core.params b) (A ++ Core.params a)))] (AV.sv (lb (alf (List.getD (Core.kids a) k
 default) (List.getD (Core.kids b) k default) (A ++ Core.params a) (B ++ Core.params b)))), Orc.ghost (Ghost.sel [0, 1, 2, 3] [2, 3, 4, 5, 14, 135, 136]), Orc.goto (List.length
 (Core.kids a) - (k + 1)) (Lc_iAlpha_sLb a b A B (k + 1))] [Orc.ghost (Ghost.sel [0, 1, 2, 3] [2, 3, 4, 5, 14, 135, 136]), Orc.goto (List.length (Core.kids a) - (k + 1))
 (Lc_iAlpha_sLb a b A B (k + 1))]] [Orc.ghost (Ghost.sel [0, 1, 2, 3] [2, 3, 4, 5, 14]), Orc.out 0]] (loopK (Ic_iAlpha_sLb a b A B) (Yc_iAlpha_sLb a b A B) (List.length (Core.kids
 a) - k)) = ((decide ((↑k : Int) < (↑(List.length (List.map coreC (Core.kids a))) : Int)) = true → (alfs (List.take k (Core.kids a)) (List.take k (Core.kids b)) (A ++ Core.params
 a) (B ++ Core.params b) = true → (0 ≤ (↑k : Int) ∧ (List.map coreC (Core.kids a))[Int.toNat (↑k : Int)]? = some (coreF (List.getD (Core.kids a) k default))) ∧ (0 ≤ (↑k : Int) ∧
 (List.map coreC (Core.kids b))[Int.toNat (↑k : Int)]? = some (coreF (List.getD (Core.kids b) k default))) ∧ P_c_iAlpha (List.getD (Core.kids a) k default) (List.getD (Core.kids b)
 k default) (A ++ Core.params a) (B ++ Core.params b) ∧ rng IntKind.i64 ((↑k : Int) + 1) ∧ List.length (Core.kids a) - (k + 1) < List.length (Core.kids a) - k ∧ Tc_iAlpha_sLb a b A
 B (li ((↑k : Int) + 1)) (lb (alf (List.getD (Core.kids a) k default) (List.getD (Core.kids b) k default) (A ++ Core.params a) (B ++ Core.params b))) = Lc_iAlpha_sLb a b A B (k +
 1) ∧ Ic_iAlpha_sLb a b A B (List.length (Core.kids a) - (k + 1)) (Lc_iAlpha_sLb a b A B (k + 1))) ∧ (alfs (List.take k (Core.kids a)) (List.take k (Core.kids b)) (A ++ Core.params
 a) (B ++ Core.params b) = false → rng IntKind.i64 ((↑k : Int) + 1) ∧ List.length (Core.kids a) - (k + 1) < List.length (Core.kids a) - k ∧ Tc_iAlpha_sLb a b A B (li ((↑k : Int) +
 1)) (lb false) = Lc_iAlpha_sLb a b A B (k + 1) ∧ Ic_iAlpha_sLb a b A B (List.length (Core.kids a) - (k + 1)) (Lc_iAlpha_sLb a b A B (k + 1)))) ∧ (decide ((↑k : Int) <
 (↑(List.length (List.map coreC (Core.kids a))) : Int)) = false → True ∧ W0c_iAlpha_sLb a b A B (lb (alfs (List.take k (Core.kids a)) (List.take k (Core.kids b)) (A ++ Core.params
 a) (B ++ Core.params b))) = W0c_iAlpha_sLb a b A B (lb (alfs (Core.kids a) (Core.kids b) (A ++ Core.params a) (B ++ Core.params b))))) := by kernel_rfl
theorem Hc_iAlpha_sLa {a : Core} {b : Core} {A : List Int} {B : List Int} {k : Nat} {m : Nat} (h : (fun k => k ≤ List.length (Core.params a) ∧ List.length (Core.params a) ≤
 9223372036854775807 ∧ List.length (Core.params a) = List.length (Core.params b)) k) (hm : (fun k => List.length (Core.params a) - k) k = m) : Ic_iAlpha_sLa a b A B m
 (Lc_iAlpha_sLa a b A B k) := hm ▸ Head.mk h
theorem Ec_iAlpha_sLa {a : Core} {b : Core} {A : List Int} {B : List Int} {k : Nat} {x0 : SV} {x1 : Ob} {x2 : Ob} (h0 : x0 = (li (↑k : Int))) (h1 : x1 = (Ob.map false kO (mO (asc
 (A ++ List.take k (Core.params a)) (B ++ List.take k (Core.params b)))))) (h2 : x2 = (Ob.map false kO (mO (asc (B ++ List.take k (Core.params b)) (A ++ List.take k (Core.params
 a)))))) : Tc_iAlpha_sLa a b A B x0 x1 x2 = Lc_iAlpha_sLa a b A B k := by
  rw [h0, h1, h2]
  rfl
theorem EW0c_iAlpha_sLa {a : Core} {b : Core} {A : List Int} {B : List Int} {x0 y0 : Ob} {x1 y1 : Ob} (h0 : x0 = y0) (h1 : x1 = y1) : W0c_iAlpha_sLa a b A B x0 x1 = W0c_iAlpha_sLa
 a b A B y0 y1 := by rw [h0, h1]
theorem run_c_iAlpha_sLa (a : Core) (b : Core) (A : List Int) (B : List Int) (k : Nat) : aexec Try.prog (loopAt Try.f183 0) (Lc_iAlpha_sLa a b A B k) [Orc.br [Orc.draw [(11, [0])],
 Orc.cells (intC (List.getD (Core.params a) k default)), Orc.cells (intC (List.getD (Core.params b) k default)), Orc.upd (mO (upd1 (asc (A ++ List.take k (Core.params a)) (B ++
 List.take k (Core.params b))) (List.getD (Core.params a) k 0) (some (List.getD (Core.params b) k 0)))), Orc.draw [(11, [1])], Orc.cells (intC (List.getD (Core.params b) k
 default)), Orc.cells (intC (List.getD (Core.params a) k default)), Orc.upd (mO (upd1 (asc (B ++ List.take k (Core.params b)) (A ++ List.take k (Core.params a))) (List.getD
 (Core.params b) k 0) (some (List.getD (Core.params a) k 0)))), Orc.ghost (Ghost.sel [0, 1, 2, 3] [2, 3, 4, 5, 106, 107]), Orc.goto (List.length (Core.params a) - (k + 1))
 (Lc_iAlpha_sLa a b A B (k + 1))] [Orc.ghost (Ghost.sel [0, 1, 2, 3] [2, 3, 4, 5]), Orc.out 0]] (loopK (Ic_iAlpha_sLa a b A B) (Yc_iAlpha_sLa a b A B) (List.length (Core.params a)
 - k)) = ((decide ((↑k : Int) < (↑(List.length (List.map intC (Core.params a))) : Int)) = true → (0 ≤ (↑k : Int) ∧ (List.map intC (Core.params a))[Int.toNat (↑k : Int)]? = some [cI
 (List.getD (Core.params a) k 0)]) ∧ (0 ≤ (↑k : Int) ∧ (List.map intC (Core.params b))[Int.toNat (↑k : Int)]? = some [cI (List.getD (Core.params b) k 0)]) ∧ false = false ∧ UpdF
 (MK.d kO) (mO (asc (A ++ List.take k (Core.params a)) (B ++ List.take k (Core.params b)))) (mO (upd1 (asc (A ++ List.take k (Core.params a)) (B ++ List.take k (Core.params b)))
 (List.getD (Core.params a) k 0) (some (List.getD (Core.params b) k 0)))) (Value.int IntKind.i64 (List.getD (Core.params a) k 0)) (some (cI (List.getD (Core.params b) k 0))) ∧ (0 ≤
 (↑k : Int) ∧ (List.map intC (Core.params b))[Int.toNat (↑k : Int)]? = some [cI (List.getD (Core.params b) k 0)]) ∧ (0 ≤ (↑k : Int) ∧ (List.map intC (Core.params a))[Int.toNat (↑k
 : Int)]? = some [cI (List.getD (Core.params a) k 0)]) ∧ false = false ∧ UpdF (MK.d kO) (mO (asc (B ++ List.take k (Core.params b)) (A ++ List.take k (Core.params a)))) (mO (upd1
 (asc (B ++ List.take k (Core.params b)) (A ++ List.take k (Core.params a))) (List.getD (Core.params b) k 0) (some (List.getD (Core.params a) k 0)))) (Value.int IntKind.i64
 (List.getD (Core.params b) k 0)) (some (cI (List.getD (Core.params a) k 0))) ∧ rng IntKind.i64 ((↑k : Int) + 1) ∧ List.length (Core.params a) - (k + 1) < List.length (Core.params
 a) - k ∧ Tc_iAlpha_sLa a b A B (li ((↑k : Int) + 1)) (Ob.map false kO (mO (upd1 (asc (A ++ List.take k (Core.params a)) (B ++ List.take k (Core.params b))) (List.getD (Core.params
 a) k 0) (some (List.getD (Core.params b) k 0))))) (Ob.map false kO (mO (upd1 (asc (B ++ List.take k (Core.params b)) (A ++ List.take k (Core.params a))) (List.getD (Core.params b)
 k 0) (some (List.getD (Core.params a) k 0))))) = Lc_iAlpha_sLa a b A B (k + 1) ∧ Ic_iAlpha_sLa a b A B (List.length (Core.params a) - (k + 1)) (Lc_iAlpha_sLa a b A B (k + 1))) ∧
 (decide ((↑k : Int) < (↑(List.length (List.map intC (Core.params a))) : Int)) = false → True ∧ W0c_iAlpha_sLa a b A B (Ob.map false kO (mO (asc (A ++ List.take k (Core.params a))
 (B ++ List.take k (Core.params b))))) (Ob.map false kO (mO (asc (B ++ List.take k (Core.params b)) (A ++ List.take k (Core.params a))))) = W0c_iAlpha_sLa a b A B (Ob.map false kO
 (mO (asc (A ++ Core.params a) (B ++ Core.params b)))) (Ob.map false kO (mO (asc (B ++ Core.params b) (A ++ Core.params a)))))) := by kernel_rfl
theorem Sc_iAlpha_sLc (a : Core) (b : Core) (A : List Int) (B : List Int) (h : List.length A = List.length B ∧ List.Nodup (A ++ bnd a) ∧ List.Nodup (B ++ bnd b)) (ih : ∀ (z :
 Core), z ∈ Core.kids a → ∀ (b : Core) (A B : List Int), List.length A = List.length B ∧ List.Nodup (A ++ bnd z) ∧ List.Nodup (B ++ bnd b) → P_c_iAlpha z b A B)  : LoopSem Try.prog
 (loopAt Try.f183 2) (Ic_iAlpha_sLc a b A B) (Yc_iAlpha_sLc a b A B) := by
  refine LoopSem.ofHead wide fun k h => ⟨_, _, run_c_iAlpha_sLc a b A B k, ?_⟩
  have g1 := @asc_drop A B a.params b.params k
  have g2 := @asc_drop B A b.params a.params k
  have g3 := @nodup_par A a
  have g4 := @nodup_par B b
  have g5 : ∀ j, a.params.length ≤ j → a.params.drop j = [] := fun j h => List.drop_eq_nil_of_le h
  have g6 : ∀ j, b.params.length ≤ j → b.params.drop j = [] := fun j h => List.drop_eq_nil_of_le h
  with_reducible repeat' (first | apply And.intro | exact flatI | exact flatS | exact rowLens | exact ih | (intro; skip) | apply obsN | apply obsC | apply obA | apply obM | apply obB | apply svA | apply tupA | apply lcA | apply lcS | apply svC | apply liC | apply lbC | apply lsC | apply vIc | apply vBc | apply vSc | apply vLc | apply mapC | apply mIc | apply mOc | apply mSc | apply mLc | apply Hc_iAlpha_sLa | apply Ec_iAlpha_sLa | apply Hc_iAlpha_sLb | apply Ec_iAlpha_sLb | apply Hc_iAlpha_sLc | apply Ec_iAlpha_sLc | apply EW0c_iAlpha_sLc | apply EW0c_iAlpha_sLb | apply EW0c_iAlpha_sLa | apply c_iEqData)
  all_goals (try simp only [std] at *)
  all_goals (try (first | with_reducible apply c_iEqData | with_reducible apply ih | (simp only [← List.map_append]; first | with_reducible apply c_iEqData | with_reducible apply ih)))
  all_goals (try (first | with_reducible rfl | omega | assumption | (refine (decide_eq_true ?_).symm; assumption) | (refine (decide_eq_false ?_).symm; assumption) | (refine rowGet ?_; (first | omega | (simp only [std]; omega) | grind)) | (refine getC ?_ rfl; (first | omega | (simp only [std]; omega) | grind)) | exact look_mI | exact look_mO | exact look_mO1 | exact look_mS | exact look_mL | exact upd_mI | exact upd_mO | exact del_mO | exact upd_mS | exact take_mL | (refine upd_mL ?_; grind) | (refine fill_step ?_ ?_; (first | omega | (simp only [std]; omega) | grind); (first | rfl | exact (Row.eq _).trans rfl)) | (refine fill_init ?_; (first | rfl | exact (Row.eq _).trans rfl)) | (show (_ : St) = _; rfl) | grind [snocI, snocS, rowSnoc]))
theorem Sc_iAlpha_sLb (a : Core) (b : Core) (A : List Int) (B : List Int) (h : List.length A = List.length B ∧ List.Nodup (A ++ bnd a) ∧ List.Nodup (B ++ bnd b)) (ih : ∀ (z :
 Core), z ∈ Core.kids a → ∀ (b : Core) (A B : List Int), List.length A = List.length B ∧ List.Nodup (A ++ bnd z) ∧ List.Nodup (B ++ bnd b) → P_c_iAlpha z b A B)  : LoopSem Try.prog
 (loopAt Try.f183 1) (Ic_iAlpha_sLb a b A B) (Yc_iAlpha_sLb a b A B) := by
  refine LoopSem.ofHead wide fun k h => ⟨_, _, run_c_iAlpha_sLb a b A B k, ?_⟩
  have g1 := @alfs_step a.kids b.kids (A ++ a.params) (B ++ b.params) k
  have g2 := @nodup_kid A a (a.kids.getD k default)
  have g3 := @nodup_kid B b (b.kids.getD k default)
  have g4 : ∀ j, a.kids.length ≤ j → a.kids.take j = a.kids := fun j h => List.take_of_length_le h
  have g5 : ∀ j, b.kids.length ≤ j → b.kids.take j = b.kids := fun j h => List.take_of_length_le h
  with_reducible repeat' (first | apply And.intro | exact flatI | exact flatS | exact rowLens | exact ih | (intro; skip) | apply obsN | apply obsC | apply obA | apply obM | apply obB | apply svA | apply tupA | apply lcA | apply lcS | apply svC | apply liC | apply lbC | apply lsC | apply vIc | apply vBc | apply vSc | apply vLc | apply mapC | apply mIc | apply mOc | apply mSc | apply mLc | apply Hc_iAlpha_sLa | apply Ec_iAlpha_sLa | apply Hc_iAlpha_sLb | apply Ec_iAlpha_sLb | apply Hc_iAlpha_sLc | apply Ec_iAlpha_sLc | apply Sc_iAlpha_sLc | apply EW0c_iAlpha_sLc | apply EW0c_iAlpha_sLb | apply EW0c_iAlpha_sLa | apply c_iEqData | apply ih)
  all_goals (try simp only [std] at *)
  all_goals (try (first | with_reducible apply c_iEqData | with_reducible apply ih | (simp only [← List.map_append]; first | with_reducible apply c_iEqData | with_reducible apply ih)))
  all_goals (try (first | with_reducible rfl | omega | assumption | (refine (decide_eq_true ?_).symm; assumption) | (refine (decide_eq_false ?_).symm; assumption) | (refine rowGet ?_; (first | omega | (simp only [std]; omega) | grind)) | (refine getC ?_ rfl; (first | omega | (simp only [std]; omega) | grind)) | exact look_mI | exact look_mO | exact look_mO1 | exact look_mS | exact look_mL | exact upd_mI | exact upd_mO | exact del_mO | exact upd_mS | exact take_mL | (refine upd_mL ?_; grind) | (refine fill_step ?_ ?_; (first | omega | (simp only [std]; omega) | grind); (first | rfl | exact (Row.eq _).trans rfl)) | (refine fill_init ?_; (first | rfl | exact (Row.eq _).trans rfl)) | (show (_ : St) = _; rfl) | grind [getD_mem', snocI, snocS, rowSnoc]))
theorem Sc_iAlpha_sLa (a : Core) (b : Core) (A : List Int) (B : List Int) (h : List.length A = List.length B ∧ List.Nodup (A ++ bnd a) ∧ List.Nodup (B ++ bnd b)) (ih : ∀ (z :
 Core), z ∈ Core.kids a → ∀ (b : Core) (A B : List Int), List.length A = List.length B ∧ List.Nodup (A ++ bnd z) ∧ List.Nodup (B ++ bnd b) → P_c_iAlpha z b A B)  : LoopSem Try.prog
 (loopAt Try.f183 0) (Ic_iAlpha_sLa a b A B) (Yc_iAlpha_sLa a b A B) := by
  refine LoopSem.ofHead wide fun k h => ⟨_, _, run_c_iAlpha_sLa a b A B k, ?_⟩
  have g1 := @asc_put A B a.params b.params k
  have g2 := @asc_put B A b.params a.params k
  have g3 : ∀ j, a.params.length ≤ j → a.params.take j = a.params := fun j h => List.take_of_length_le h
  have g4 : ∀ j, b.params.length ≤ j → b.params.take j = b.params := fun j h => List.take_of_length_le h
  with_reducible repeat' (first | apply And.intro | exact flatI | exact flatS | exact rowLens | exact ih | (intro; skip) | apply obsN | apply obsC | apply obA | apply obM | apply obB | apply svA | apply tupA | apply lcA | apply lcS | apply svC | apply liC | apply lbC | apply lsC | apply vIc | apply vBc | apply vSc | apply vLc | apply mapC | apply mIc | apply mOc | apply mSc | apply mLc | apply Hc_iAlpha_sLa | apply Ec_iAlpha_sLa | apply Hc_iAlpha_sLb | apply Ec_iAlpha_sLb | apply Hc_iAlpha_sLc | apply Ec_iAlpha_sLc | apply Sc_iAlpha_sLb | apply Sc_iAlpha_sLc | apply EW0c_iAlpha_sLc | apply EW0c_iAlpha_sLb | apply EW0c_iAlpha_sLa | apply c_iEqData)
  all_goals (try simp only [std] at *)
  all_goals (try (first | with_reducible apply c_iEqData | with_reducible apply ih | (simp only [← List.map_append]; first | with_reducible apply c_iEqData | with_reducible apply ih)))
  all_goals (try (first | with_reducible rfl | omega | assumption | (refine (decide_eq_true ?_).symm; assumption) | (refine (decide_eq_false ?_).symm; assumption) | (refine rowGet ?_; (first | omega | (simp only [std]; omega) | grind)) | (refine getC ?_ rfl; (first | omega | (simp only [std]; omega) | grind)) | exact look_mI | exact look_mO | exact look_mO1 | exact look_mS | exact look_mL | exact upd_mI | exact upd_mO | exact del_mO | exact upd_mS | exact take_mL | (refine upd_mL ?_; grind) | (refine fill_step ?_ ?_; (first | omega | (simp only [std]; omega) | grind); (first | rfl | exact (Row.eq _).trans rfl)) | (refine fill_init ?_; (first | rfl | exact (Row.eq _).trans rfl)) | (show (_ : St) = _; rfl) | grind [snocI, snocS, rowSnoc]))
abbrev a5_c_iAlpha_s (A : List Int) (B : List Int) := [Ob.map false kO (mO (asc A B)), Ob.map false kO (mO (asc B A))]
abbrev a1_c_iAlpha_s (a : Core) (b : Core) (A : List Int) (B : List Int) := (True → List.length (List.map coreC (Core.kids a)) ≤ 9223372036854775807 → Tc_iAlpha_sLb a b A B (li 0)
 (lb true) = Lc_iAlpha_sLb a b A B 0 ∧ Ic_iAlpha_sLb a b A B (List.length (Core.kids a) - 0) (Lc_iAlpha_sLb a b A B 0) ∧ LoopSem Try.prog (loopAt Try.f183 1) (Ic_iAlpha_sLb a b A
 B) (Yc_iAlpha_sLb a b A B) ∧ (True → List.length (List.map intC (Core.params a)) ≤ 9223372036854775807 → Tc_iAlpha_sLc a b A B (li 0) (Ob.map false kO (mO (asc (A ++ Core.params
 a) (B ++ Core.params b)))) (Ob.map false kO (mO (asc (B ++ Core.params b) (A ++ Core.params a)))) = Lc_iAlpha_sLc a b A B 0 ∧ Ic_iAlpha_sLc a b A B (List.length (Core.params a) -
 0) (Lc_iAlpha_sLc a b A B 0) ∧ LoopSem Try.prog (loopAt Try.f183 2) (Ic_iAlpha_sLc a b A B) (Yc_iAlpha_sLc a b A B) ∧ (True → ObsEq (a5_c_iAlpha_s A B) (a5_c_iAlpha_s A B) ∧ AV.sv
 (lb (alfs (Core.kids a) (Core.kids b) (A ++ Core.params a) (B ++ Core.params b))) = AV.sv (lb (alf a b A B))) ∧ True) ∧ True)
abbrev a2_c_iAlpha_s (a : Core) (b : Core) (A : List Int) (B : List Int) := [(True, AEx.exit 0, W0c_iAlpha_sLa a b A B (Ob.map false kO (mO (asc (A ++ Core.params a) (B ++
 Core.params b)))) (Ob.map false kO (mO (asc (B ++ Core.params b) (A ++ Core.params a)))), [Orc.ghost (Ghost.sel [0, 1, 2, 3] [2, 3, 4, 5, 14, 135, 136]), Orc.loop (List.length
 (Core.kids a) - 0) (Lc_iAlpha_sLb a b A B 0) (Ic_iAlpha_sLb a b A B) [(True, AEx.exit 2, W0c_iAlpha_sLb a b A B (lb (alfs (Core.kids a) (Core.kids b) (A ++ Core.params a) (B ++
 Core.params b))), [Orc.ghost (Ghost.sel [0, 1, 2, 3] [2, 3, 4, 5, 14, 158, 159]), Orc.loop (List.length (Core.params a) - 0) (Lc_iAlpha_sLc a b A B 0) (Ic_iAlpha_sLc a b A B)
 [(True, AEx.exit 4, W0c_iAlpha_sLc a b A B (Ob.map false kO (mO (asc A B))) (Ob.map false kO (mO (asc B A))), [Orc.fin []])]])]])]
abbrev a12_c_iAlpha_s (a : Core) (b : Core) (A : List Int) (B : List Int) := (decide (Core.number a ≠ Core.number b) = true → ObsEq (a5_c_iAlpha_s A B) (a5_c_iAlpha_s A B) ∧ AV.sv
 (lb false) = AV.sv (lb (alf a b A B)))
abbrev a6_c_iAlpha_s (a : Core) (b : Core) (A : List Int) (B : List Int) := (decide (Core.number a ≠ Core.number b) = false → List.length (List.map intC (Core.params a)) ≤
 9223372036854775807 → Tc_iAlpha_sLa a b A B (li 0) (Ob.map false kO (mO (asc A B))) (Ob.map false kO (mO (asc B A))) = Lc_iAlpha_sLa a b A B 0 ∧ Ic_iAlpha_sLa a b A B (List.length
 (Core.params a) - 0) (Lc_iAlpha_sLa a b A B 0) ∧ LoopSem Try.prog (loopAt Try.f183 0) (Ic_iAlpha_sLa a b A B) (Yc_iAlpha_sLa a b A B) ∧ (a1_c_iAlpha_s a b A B) ∧ True)
abbrev a8_c_iAlpha_s (a : Core) (b : Core) (A : List Int) (B : List Int) := ((!Option.isSome (asc A B (Core.number a))) = false → false = false ∧ (List.length (List.map intC
 (Core.params a)) ≤ 9223372036854775807 → Tc_iAlpha_sLa a b A B (li 0) (Ob.map false kO (mO (asc A B))) (Ob.map false kO (mO (asc B A))) = Lc_iAlpha_sLa a b A B 0 ∧ Ic_iAlpha_sLa a
 b A B (List.length (Core.params a) - 0) (Lc_iAlpha_sLa a b A B 0) ∧ LoopSem Try.prog (loopAt Try.f183 0) (Ic_iAlpha_sLa a b A B) (Yc_iAlpha_sLa a b A B) ∧ (a1_c_iAlpha_s a b A B)
 ∧ True))
abbrev a3_c_iAlpha_s (a : Core) (b : Core) (A : List Int) (B : List Int) := (decide (Option.isSome (asc A B (Core.number a)) ≠ Option.isSome (asc B A (Core.number b))) = false →
 (Option.isSome (asc A B (Core.number a)) = true → (decide (Option.getD (asc A B (Core.number a)) (0 : Int) ≠ Core.number b) = true → true = true ∧ true = true ∧ ObsEq
 (a5_c_iAlpha_s A B) (a5_c_iAlpha_s A B) ∧ AV.sv (lb false) = AV.sv (lb (alf a b A B))) ∧ (decide (Option.getD (asc A B (Core.number a)) (0 : Int) ≠ Core.number b) = false →
 (decide (Option.getD (asc B A (Core.number b)) (0 : Int) ≠ Core.number a) = true → true = true ∧ ObsEq (a5_c_iAlpha_s A B) (a5_c_iAlpha_s A B) ∧ AV.sv (lb false) = AV.sv (lb (alf
 a b A B))) ∧ (decide (Option.getD (asc B A (Core.number b)) (0 : Int) ≠ Core.number a) = false → ((!Option.isSome (asc A B (Core.number a))) = true → (a12_c_iAlpha_s a b A B) ∧
 (a6_c_iAlpha_s a b A B)) ∧ (a8_c_iAlpha_s a b A B)))) ∧ (Option.isSome (asc A B (Core.number a)) = false → false = false ∧ ((!Option.isSome (asc A B (Core.number a))) = true →
 (a12_c_iAlpha_s a b A B) ∧ (a6_c_iAlpha_s a b A B)) ∧ (a8_c_iAlpha_s a b A B)))
abbrev a7_c_iAlpha_s (a : Core) (b : Core) (A : List Int) (B : List Int) := [Orc.br [Orc.fin []] [Orc.ghost (Ghost.sel [0, 1, 2, 3] [2, 3, 4, 5, 106, 107]), Orc.loop (List.length
 (Core.params a) - 0) (Lc_iAlpha_sLa a b A B 0) (Ic_iAlpha_sLa a b A B) (a2_c_iAlpha_s a b A B)]]
abbrev a11_c_iAlpha_s (a : Core) (b : Core) (A : List Int) (B : List Int) := [Orc.bool false, Orc.ghost (Ghost.sel [0, 1, 2, 3] [2, 3, 4, 5, 106, 107]), Orc.loop (List.length
 (Core.params a) - 0) (Lc_iAlpha_sLa a b A B 0) (Ic_iAlpha_sLa a b A B) (a2_c_iAlpha_s a b A B)]
abbrev a4_c_iAlpha_s (a : Core) (b : Core) (A : List Int) (B : List Int) := [Orc.br [Orc.br [Orc.bool true, Orc.bool true, Orc.fin []] [Orc.br [Orc.bool true, Orc.fin []] [Orc.br
 (a7_c_iAlpha_s a b A B) (a11_c_iAlpha_s a b A B)]]] [Orc.bool false, Orc.br (a7_c_iAlpha_s a b A B) (a11_c_iAlpha_s a b A B)]]
abbrev a9_c_iAlpha_s (a : Core) (A : List Int) (B : List Int) := (mO (asc A B) (Value.int IntKind.i64 (Core.number a)) = some (cI (Option.getD (asc A B (Core.number a)) 0)) ∧
 Option.isSome (asc A B (Core.number a)) = true ∨ mO (asc A B) (Value.int IntKind.i64 (Core.number a)) = none ∧ cI (Option.getD (asc A B (Core.number a)) 0) = cI 0 ∧ Option.isSome
 (asc A B (Core.number a)) = false)
abbrev a10_c_iAlpha_s (b : Core) (A : List Int) (B : List Int) := (mO (asc B A) (Value.int IntKind.i64 (Core.number b)) = some (cI (Option.getD (asc B A (Core.number b)) 0)) ∧
 Option.isSome (asc B A (Core.number b)) = true ∨ mO (asc B A) (Value.int IntKind.i64 (Core.number b)) = none ∧ cI (Option.getD (asc B A (Core.number b)) 0) = cI 0 ∧ Option.isSome
 (asc B A (Core.number b)) = false)
theorem run_c_iAlpha_s (a : Core) (b : Core) (A : List Int) (B : List Int) : aexec Try.prog (Option.getD (Func.body Try.f183) Code.skip) (entry (a5_c_iAlpha_s A B) [coreA a, coreA
 b, SV.one (AC.mref 0), SV.one (AC.mref 1)] 176) [Orc.br [Orc.bool true, Orc.bool true, Orc.bool true, Orc.fin []] [Orc.br [Orc.bool true, Orc.bool true, Orc.fin []] [Orc.call
 [Mode.rd, Mode.rd] [] (AV.sv (lb (decide (Core.datum a = Core.datum b)))), Orc.br [Orc.bool true, Orc.fin []] [Orc.br [Orc.fin []] [Orc.br [Orc.bool true, Orc.cells [cI
 (Option.getD (asc A B (Core.number a)) 0)], Orc.bool (Option.isSome (asc A B (Core.number a))), Orc.cells [cI (Option.getD (asc B A (Core.number b)) 0)], Orc.bool (Option.isSome
 (asc B A (Core.number b))), Orc.br [Orc.bool true, Orc.bool true, Orc.fin []] (a4_c_iAlpha_s a b A B)] [Orc.br [Orc.cells [cI (Option.getD (asc A B (Core.number a)) 0)], Orc.bool
 (Option.isSome (asc A B (Core.number a))), Orc.cells [cI (Option.getD (asc B A (Core.number b)) 0)], Orc.bool (Option.isSome (asc B A (Core.number b))), Orc.br [Orc.bool true,
 Orc.bool true, Orc.fin []] (a4_c_iAlpha_s a b A B)] (a7_c_iAlpha_s a b A B)]]]]]] (finK Try.prog [ResultVar.tmp 8] (a5_c_iAlpha_s A B) (AV.sv (lb (alf a b A B)))) = ((decide
 (Core.kind a ≠ Core.kind b) = true → true = true ∧ true = true ∧ true = true ∧ ObsEq (a5_c_iAlpha_s A B) (a5_c_iAlpha_s A B) ∧ AV.sv (lb false) = AV.sv (lb (alf a b A B))) ∧
 (decide (Core.kind a ≠ Core.kind b) = false → List.length (List.map intC (Core.params a)) ≤ 9223372036854775807 → List.length (List.map intC (Core.params b)) ≤ 9223372036854775807
 → (decide ((↑(List.length (List.map intC (Core.params a))) : Int) ≠ (↑(List.length (List.map intC (Core.params b))) : Int)) = true → true = true ∧ true = true ∧ ObsEq
 (a5_c_iAlpha_s A B) (a5_c_iAlpha_s A B) ∧ AV.sv (lb false) = AV.sv (lb (alf a b A B))) ∧ (decide ((↑(List.length (List.map intC (Core.params a))) : Int) ≠ (↑(List.length (List.map
 intC (Core.params b))) : Int)) = false → P_c_iEqData (Core.datum a) (Core.datum b) ∧ ((!decide (Core.datum a = Core.datum b)) = true → true = true ∧ ObsEq (a5_c_iAlpha_s A B)
 (a5_c_iAlpha_s A B) ∧ AV.sv (lb false) = AV.sv (lb (alf a b A B))) ∧ ((!decide (Core.datum a = Core.datum b)) = false → List.length (List.map coreC (Core.kids a)) ≤
 9223372036854775807 → List.length (List.map coreC (Core.kids b)) ≤ 9223372036854775807 → (decide ((↑(List.length (List.map coreC (Core.kids a))) : Int) ≠ (↑(List.length (List.map
 coreC (Core.kids b))) : Int)) = true → ObsEq (a5_c_iAlpha_s A B) (a5_c_iAlpha_s A B) ∧ AV.sv (lb false) = AV.sv (lb (alf a b A B))) ∧ (decide ((↑(List.length (List.map coreC
 (Core.kids a))) : Int) ≠ (↑(List.length (List.map coreC (Core.kids b))) : Int)) = false → (decide (Core.kind a = 2) = true → true = true ∧ (a9_c_iAlpha_s a A B) ∧ (a10_c_iAlpha_s
 b A B) ∧ (decide (Option.isSome (asc A B (Core.number a)) ≠ Option.isSome (asc B A (Core.number b))) = true → true = true ∧ true = true ∧ ObsEq (a5_c_iAlpha_s A B) (a5_c_iAlpha_s
 A B) ∧ AV.sv (lb false) = AV.sv (lb (alf a b A B))) ∧ (a3_c_iAlpha_s a b A B)) ∧ (decide (Core.kind a = 2) = false → (decide (Core.kind a = 4) = true → (a9_c_iAlpha_s a A B) ∧
 (a10_c_iAlpha_s b A B) ∧ (decide (Option.isSome (asc A B (Core.number a)) ≠ Option.isSome (asc B A (Core.number b))) = true → true = true ∧ true = true ∧ ObsEq (a5_c_iAlpha_s A B)
 (a5_c_iAlpha_s A B) ∧ AV.sv (lb false) = AV.sv (lb (alf a b A B))) ∧ (a3_c_iAlpha_s a b A B)) ∧ (decide (Core.kind a = 4) = false → (a12_c_iAlpha_s a b A B) ∧ (a6_c_iAlpha_s a b A
 B)))))))) := by kernel_rfl
theorem c_iAlpha_s (a b : Core) (A B : List Int) (h : A.length = B.length ∧ (A ++ bnd a).Nodup ∧ (B ++ bnd b).Nodup) (ih : ∀ z ∈ a.kids, ∀ (b : Core) (A : List Int) (B : List Int)
 (h : A.length = B.length ∧ (A ++ bnd z).Nodup ∧ (B ++ bnd b).Nodup), P_c_iAlpha z b A B)  : P_c_iAlpha a b A B := by
  refine CallOK.ofRun wide (run_c_iAlpha_s a b A B) Try.call183 Try.func183 rfl rfl rfl ?_
  try delta a5_c_iAlpha_s a1_c_iAlpha_s a2_c_iAlpha_s a12_c_iAlpha_s a6_c_iAlpha_s a8_c_iAlpha_s a3_c_iAlpha_s a7_c_iAlpha_s a11_c_iAlpha_s a4_c_iAlpha_s a9_c_iAlpha_s a10_c_iAlpha_s
  have g := num_iff h.1 (nodup_left h.2.1) (nodup_left h.2.2) a.number b.number
  with_reducible repeat' (first | apply And.intro | exact flatI | exact flatS | exact rowLens | exact ih | (intro; skip) | apply obsN | apply obsC | apply obA | apply obM | apply obB | apply svA | apply tupA | apply lcA | apply lcS | apply svC | apply liC | apply lbC | apply lsC | apply vIc | apply vBc | apply vSc | apply vLc | apply mapC | apply mIc | apply mOc | apply mSc | apply mLc | apply Hc_iAlpha_sLa | apply Ec_iAlpha_sLa | apply Sc_iAlpha_sLa | apply Hc_iAlpha_sLb | apply Ec_iAlpha_sLb | apply Sc_iAlpha_sLb | apply Hc_iAlpha_sLc | apply Ec_iAlpha_sLc | apply Sc_iAlpha_sLc | apply EW0c_iAlpha_sLc | apply EW0c_iAlpha_sLb | apply EW0c_iAlpha_sLa | apply c_iEqData)
  all_goals (try simp only [std] at *)
  all_goals (try (first | with_reducible apply c_iEqData | with_reducible apply ih | (simp only [← List.map_append]; first | with_reducible apply c_iEqData | with_reducible apply ih)))
  all_goals (try (first | with_reducible rfl | omega | assumption | (refine (decide_eq_true ?_).symm; assumption) | (refine (decide_eq_false ?_).symm; assumption) | (refine rowGet ?_; (first | omega | (simp only [std]; omega) | grind)) | (refine getC ?_ rfl; (first | omega | (simp only [std]; omega) | grind)) | exact look_mI | exact look_mO | exact look_mO1 | exact look_mS | exact look_mL | exact upd_mI | exact upd_mO | exact del_mO | exact upd_mS | exact take_mL | (refine upd_mL ?_; grind) | (refine fill_step ?_ ?_; (first | omega | (simp only [std]; omega) | grind); (first | rfl | exact (Row.eq _).trans rfl)) | (refine fill_init ?_; (first | rfl | exact (Row.eq _).trans rfl)) | (show (_ : St) = _; rfl) | grind [alf_eq, alf0, alfs, snocI, snocS, rowSnoc]))
theorem c_iAlpha (a : Core) : ∀ (b : Core) (A : List Int) (B : List Int) (h : A.length = B.length ∧ (A ++ bnd a).Nodup ∧ (B ++ bnd b).Nodup), P_c_iAlpha a b A B := Core.ind (P := fun a => ∀ (b : Core) (A : List Int) (B : List Int) (h : A.length = B.length ∧ (A ++ bnd a).Nodup ∧ (B ++ bnd b).Nodup), P_c_iAlpha a b A B) (fun a ih b A B h => c_iAlpha_s a b A B h ih) a
abbrev P_c_iAlphaEqual (a : Core) (b : Core) : Prop := CallOK Try.prog 78 [] [coreA a, coreA b] [] (.sv (lb (valC a && valC b && alf a b [] [])))
theorem run_c_iAlphaEqual (a : Core) (b : Core) : aexec Try.prog (Option.getD (Func.body Try.f78) Code.skip) (entry [] [coreA a, coreA b] 18) [Orc.call [Mode.rd] [] (AV.sv (lb
 (valC a))), Orc.br [Orc.call [Mode.rd] [] (AV.sv (lb (valC b))), Orc.br [Orc.mkmap kO, Orc.mkmap kO, Orc.call [Mode.rd, Mode.rd, Mode.map, Mode.map] [Ob.map false kO (mO (asc []
 [])), Ob.map false kO (mO (asc [] []))] (AV.sv (lb (alf a b [] []))), Orc.fin []] [Orc.fin []]] [Orc.bool false, Orc.fin []]] (finK Try.prog [ResultVar.tmp 4] [] (AV.sv (lb (valC
 a && valC b && alf a b [] [])))) = (P_c_iValid a ∧ (valC a = true → P_c_iValid b ∧ (valC b = true → P_c_iAlpha a b [] [] ∧ ObsEq [] [] ∧ AV.sv (lb (alf a b [] [])) = AV.sv (lb
 (valC a && valC b && alf a b [] []))) ∧ (valC b = false → ObsEq [] [] ∧ AV.sv (lb false) = AV.sv (lb (valC a && valC b && alf a b [] [])))) ∧ (valC a = false → false = false ∧
 ObsEq [] [] ∧ AV.sv (lb false) = AV.sv (lb (valC a && valC b && alf a b [] [])))) := by kernel_rfl
theorem c_iAlphaEqual (a b : Core) (h : wC a ≤ 90000000 ∧ wC b ≤ 90000000)  : P_c_iAlphaEqual a b := by
  refine CallOK.ofRun wide (run_c_iAlphaEqual a b) Try.call78 Try.func78 rfl rfl rfl ?_
  have g : ∀ c, valC c = true → (bnd c).Nodup := fun c h => by
    simp only [valC, Bool.and_eq_true, okU_iff] at h
    exact (List.nodup_append.1 h.2.1).2.1
  with_reducible repeat' (first | apply And.intro | exact flatI | exact flatS | exact rowLens | (intro; skip) | apply obsN | apply obsC | apply obA | apply obM | apply obB | apply svA | apply tupA | apply lcA | apply lcS | apply svC | apply liC | apply lbC | apply lsC | apply vIc | apply vBc | apply vSc | apply vLc | apply mapC | apply mIc | apply mOc | apply mSc | apply mLc | apply c_iValid | apply c_iAlpha)
  all_goals (try simp only [std] at *)
  all_goals (try (first | with_reducible apply c_iValid | with_reducible apply c_iAlpha | (simp only [← List.map_append]; first | with_reducible apply c_iValid | with_reducible apply c_iAlpha)))
  all_goals (try (first | with_reducible rfl | omega | assumption | (refine (decide_eq_true ?_).symm; assumption) | (refine (decide_eq_false ?_).symm; assumption) | (refine rowGet ?_; (first | omega | (simp only [std]; omega) | grind)) | (refine getC ?_ rfl; (first | omega | (simp only [std]; omega) | grind)) | exact look_mI | exact look_mO | exact look_mO1 | exact look_mS | exact look_mL | exact upd_mI | exact upd_mO | exact del_mO | exact upd_mS | exact take_mL | (refine upd_mL ?_; grind) | (refine fill_step ?_ ?_; (first | omega | (simp only [std]; omega) | grind); (first | rfl | exact (Row.eq _).trans rfl)) | (refine fill_init ?_; (first | rfl | exact (Row.eq _).trans rfl)) | (show (_ : St) = _; rfl) | grind [asc_nil, snocI, snocS, rowSnoc]))
end Go.Proofs.Ytehpjofddjmbpaa
end
section
namespace Go.Proofs.Ytehpjofddjmbpaa
open Go Go.Proofs.Ytehpjofddjmbpaa.Ab
set_option linter.unusedVariables false
set_option linter.unusedSimpArgs false
set_option maxHeartbeats 4000000
abbrev P_c_szIntS (L : List Int) (left : Int) : Prop := CallOK Try.prog 149 [] [ll (L.map intC), li left] [] (.sv (li (sz L.length left)))
theorem run_c_szIntS (L : List Int) (left : Int) : aexec Try.prog (Option.getD (Func.body Try.f149) Code.skip) (entry [] [ll (List.map intC L), li left] 12) [Orc.br [Orc.fin []]
 [Orc.fin []]] (finK Try.prog [ResultVar.tmp 4] [] (AV.sv (li (sz (List.length L) left)))) = (List.length (List.map intC L) ≤ 9223372036854775807 → rng IntKind.i64 (left -
 (↑(List.length (List.map intC L)) : Int)) ∧ (decide (left - (↑(List.length (List.map intC L)) : Int) < 0) = true → ObsEq [] [] ∧ AV.sv (li (-1 : Int)) = AV.sv (li (sz (List.length
 L) left))) ∧ (decide (left - (↑(List.length (List.map intC L)) : Int) < 0) = false → ObsEq [] [] ∧ AV.sv (li (left - (↑(List.length (List.map intC L)) : Int))) = AV.sv (li (sz
 (List.length L) left)))) := by kernel_rfl
theorem c_szIntS (L : List Int) (left : Int) (h0 : 0 ≤ left) (h : left ≤ 2147483647)  : P_c_szIntS L left := by
  refine CallOK.ofRun wide (run_c_szIntS L left) Try.call149 Try.func149 rfl rfl rfl ?_
  with_reducible repeat' (first | apply And.intro | exact flatI | exact flatS | exact rowLens | (intro; skip) | apply obsN | apply obsC | apply obA | apply obM | apply obB | apply svA | apply tupA | apply lcA | apply lcS | apply svC | apply liC | apply lbC | apply lsC | apply vIc | apply vBc | apply vSc | apply vLc | apply mapC)
  all_goals (try simp only [std] at *)
  all_goals (try (first | with_reducible rfl | omega | assumption | (refine (decide_eq_true ?_).symm; assumption) | (refine (decide_eq_false ?_).symm; assumption) | (refine rowGet ?_; (first | omega | (simp only [std]; omega) | grind)) | (refine getC ?_ rfl; (first | omega | (simp only [std]; omega) | grind)) | (refine fill_step ?_ ?_; (first | omega | (simp only [std]; omega) | grind); (first | rfl | exact (Row.eq _).trans rfl)) | (refine fill_init ?_; (first | rfl | exact (Row.eq _).trans rfl)) | grind [sz, snocI, snocS, rowSnoc]))
abbrev P_c_szDatumS (L : List Datum) (left : Int) : Prop := CallOK Try.prog 118 [] [ll (L.map datumC), li left] [] (.sv (li (sz (L.length + sumBy wD L) left)))
abbrev P_c_szDatum (x : Datum) (left : Int) : Prop := CallOK Try.prog 42 [] [datumA x, li left] [] (.sv (li (sz (wD x) left)))
def Tc_szDatumSLa (L : List Datum) (left : Int) (x0 : SV) (x1 : SV) : St := St.mk (regsOf 27 [(0, AV.sv (ll (List.map datumC L))), (1, AV.sv x1), (5, AV.sv x0)]) [] 0 
def Lc_szDatumSLa (L : List Datum) (left : Int) (k : Nat × Int) : St := Tc_szDatumSLa L left (li (↑(Prod.fst k) : Int)) (li (Prod.snd k)) 
def Ic_szDatumSLa (L : List Datum) (left : Int) : Nat → St → Prop := Head (Lc_szDatumSLa L left) (fun k => Prod.fst k ≤ List.length L ∧ List.length L ≤ 9223372036854775807 ∧ 0 ≤
 Prod.snd k ∧ Prod.snd k ≤ left ∧ sz (sumBy wD (List.drop (Prod.fst k) L)) (Prod.snd k) = sz (List.length L + sumBy wD L) left) fun k => List.length L - Prod.fst k 
def W0c_szDatumSLa (L : List Datum) (left : Int) (x0 : SV) : St := St.mk (regsOf 27 [(1, AV.sv x0)]) [] 0 
def W1c_szDatumSLa (L : List Datum) (left : Int) (x0 : SV) : St := St.mk (regsOf 27 [(4, AV.sv x0)]) [] 0 
def Yc_szDatumSLa (L : List Datum) (left : Int) : List (Prop × AEx × St) := [(0 ≤ sz (List.length L + sumBy wD L) left, AEx.exit 0, W0c_szDatumSLa L left (li (sz (List.length L +
 sumBy wD L) left))), (sz (List.length L + sumBy wD L) left = (-1 : Int), AEx.ret, W1c_szDatumSLa L left (li (-1 : Int)))]
theorem Hc_szDatumSLa {L : List Datum} {left : Int} {k : Nat × Int} {m : Nat} (h : (fun k => Prod.fst k ≤ List.length L ∧ List.length L ≤ 9223372036854775807 ∧ 0 ≤ Prod.snd k ∧
 Prod.snd k ≤ left ∧ sz (sumBy wD (List.drop (Prod.fst k) L)) (Prod.snd k) = sz (List.length L + sumBy wD L) left) k) (hm : (fun k => List.length L - Prod.fst k) k = m) :
 Ic_szDatumSLa L left m (Lc_szDatumSLa L left k) := hm ▸ Head.mk h
theorem Ec_szDatumSLa {L : List Datum} {left : Int} {k : Nat × Int} {x0 : SV} {x1 : SV} (h0 : x0 = (li (↑(Prod.fst k) : Int))) (h1 : x1 = (li (Prod.snd k))) : Tc_szDatumSLa L left
 x0 x1 = Lc_szDatumSLa L left k := by
  rw [h0, h1]
  rfl
theorem EW0c_szDatumSLa {L : List Datum} {left : Int} {x0 y0 : SV} (h0 : x0 = y0) : W0c_szDatumSLa L left x0 = W0c_szDatumSLa L left y0 := by rw [h0]
theorem EW1c_szDatumSLa {L : List Datum} {left : Int} {x0 y0 : SV} (h0 : x0 = y0) : W1c_szDatumSLa L left x0 = W1c_szDatumSLa L left y0 := by rw [h0]
theorem run_c_szDatumSLa (L : List Datum) (left : Int) (k : Nat × Int) : aexec Try.prog (loopAt Try.f118 0) (Lc_szDatumSLa L left k) [Orc.br [Orc.cells (datumF (List.getD L
 (Prod.fst k) default)), Orc.call [Mode.rd, Mode.rd] [] (AV.sv (li (sz (wD (List.getD L (Prod.fst k) default)) (Prod.snd k)))), Orc.br [Orc.ghost (Ghost.sel [] [4]), Orc.out 1]
 [Orc.ghost (Ghost.sel [] [0, 1, 5]), Orc.goto (List.length L - (Prod.fst k + 1)) (Lc_szDatumSLa L left (Prod.fst k + 1, sz (wD (List.getD L (Prod.fst k) default)) (Prod.snd k)))]]
 [Orc.ghost (Ghost.sel [] [1]), Orc.out 0]] (loopK (Ic_szDatumSLa L left) (Yc_szDatumSLa L left) (List.length L - Prod.fst k)) = (List.length (List.map datumC L) ≤
 9223372036854775807 → (decide ((↑(Prod.fst k) : Int) < (↑(List.length (List.map datumC L)) : Int)) = true → (0 ≤ (↑(Prod.fst k) : Int) ∧ (List.map datumC L)[Int.toNat (↑(Prod.fst
 k) : Int)]? = some (datumF (List.getD L (Prod.fst k) default))) ∧ P_c_szDatum (List.getD L (Prod.fst k) default) (Prod.snd k) ∧ (decide (sz (wD (List.getD L (Prod.fst k) default))
 (Prod.snd k) < 0) = true → sz (List.length L + sumBy wD L) left = (-1 : Int) ∧ W1c_szDatumSLa L left (li (-1 : Int)) = W1c_szDatumSLa L left (li (-1 : Int))) ∧ (decide (sz (wD
 (List.getD L (Prod.fst k) default)) (Prod.snd k) < 0) = false → rng IntKind.i64 ((↑(Prod.fst k) : Int) + 1) ∧ List.length L - (Prod.fst k + 1) < List.length L - Prod.fst k ∧
 Tc_szDatumSLa L left (li ((↑(Prod.fst k) : Int) + 1)) (li (sz (wD (List.getD L (Prod.fst k) default)) (Prod.snd k))) = Lc_szDatumSLa L left (Prod.fst k + 1, sz (wD (List.getD L
 (Prod.fst k) default)) (Prod.snd k)) ∧ Ic_szDatumSLa L left (List.length L - (Prod.fst k + 1)) (Lc_szDatumSLa L left (Prod.fst k + 1, sz (wD (List.getD L (Prod.fst k) default))
 (Prod.snd k))))) ∧ (decide ((↑(Prod.fst k) : Int) < (↑(List.length (List.map datumC L)) : Int)) = false → 0 ≤ sz (List.length L + sumBy wD L) left ∧ W0c_szDatumSLa L left (li
 (Prod.snd k)) = W0c_szDatumSLa L left (li (sz (List.length L + sumBy wD L) left)))) := by kernel_rfl
theorem Sc_szDatumSLa (L : List Datum) (left : Int) (h0 : 0 ≤ left) (h : left ≤ 2147483647) (ih : ∀ (x : Datum), x ∈ L → ∀ (left : Int), 0 ≤ left → left ≤ 2147483647 → P_c_szDatum
 x left)  : LoopSem Try.prog (loopAt Try.f118 0) (Ic_szDatumSLa L left) (Yc_szDatumSLa L left) := by
  refine LoopSem.ofHead wide fun k h => ⟨_, _, run_c_szDatumSLa L left k, ?_⟩
  obtain ⟨i, n⟩ := k
  simp only at *
  with_reducible repeat' (first | apply And.intro | exact flatI | exact flatS | exact rowLens | exact ih | (intro; skip) | apply obsN | apply obsC | apply obA | apply obM | apply obB | apply svA | apply tupA | apply lcA | apply lcS | apply svC | apply liC | apply lbC | apply lsC | apply vIc | apply vBc | apply vSc | apply vLc | apply mapC | apply Hc_szDatumSLa | apply Ec_szDatumSLa | apply EW0c_szDatumSLa | apply EW1c_szDatumSLa | apply ih)
  all_goals (try simp only [std] at *)
  all_goals (try (first | with_reducible rfl | omega | assumption | (refine (decide_eq_true ?_).symm; assumption) | (refine (decide_eq_false ?_).symm; assumption) | (refine rowGet ?_; (first | omega | (simp only [std]; omega) | grind)) | (refine getC ?_ rfl; (first | omega | (simp only [std]; omega) | grind)) | (refine fill_step ?_ ?_; (first | omega | (simp only [std]; omega) | grind); (first | rfl | exact (Row.eq _).trans rfl)) | (refine fill_init ?_; (first | rfl | exact (Row.eq _).trans rfl)) | grind [drop_get, sumBy, sz, getD_mem', snocI, snocS, rowSnoc]))
theorem run_c_szDatumS (L : List Datum) (left : Int) : aexec Try.prog (Option.getD (Func.body Try.f118) Code.skip) (entry [] [ll (List.map datumC L), li left] 27) [Orc.br [Orc.fin
 []] [Orc.ghost (Ghost.sel [] [0, 1, 5]), Orc.loop (List.length L - 0) (Lc_szDatumSLa L left (0, left - (↑(List.length L) : Int))) (Ic_szDatumSLa L left) [(0 ≤ sz (List.length L +
 sumBy wD L) left, AEx.exit 0, W0c_szDatumSLa L left (li (sz (List.length L + sumBy wD L) left)), [Orc.fin []]), (sz (List.length L + sumBy wD L) left = (-1 : Int), AEx.ret,
 W1c_szDatumSLa L left (li (-1 : Int)), [Orc.fin []])]]] (finK Try.prog [ResultVar.tmp 4] [] (AV.sv (li (sz (List.length L + sumBy wD L) left)))) = (List.length (List.map datumC L)
 ≤ 9223372036854775807 → rng IntKind.i64 (left - (↑(List.length (List.map datumC L)) : Int)) ∧ (decide (left - (↑(List.length (List.map datumC L)) : Int) < 0) = true → ObsEq [] []
 ∧ AV.sv (li (-1 : Int)) = AV.sv (li (sz (List.length L + sumBy wD L) left))) ∧ (decide (left - (↑(List.length (List.map datumC L)) : Int) < 0) = false → Tc_szDatumSLa L left (li
 0) (li (left - (↑(List.length (List.map datumC L)) : Int))) = Lc_szDatumSLa L left (0, left - (↑(List.length L) : Int)) ∧ Ic_szDatumSLa L left (List.length L - 0) (Lc_szDatumSLa L
 left (0, left - (↑(List.length L) : Int))) ∧ LoopSem Try.prog (loopAt Try.f118 0) (Ic_szDatumSLa L left) (Yc_szDatumSLa L left) ∧ (Int.NonNeg (sz (List.length L + sumBy wD L) left
 - 0) → ObsEq [] [] ∧ AV.sv (li (sz (List.length L + sumBy wD L) left)) = AV.sv (li (sz (List.length L + sumBy wD L) left))) ∧ (sz (List.length L + sumBy wD L) left = (-1 : Int) →
 ObsEq [] [] ∧ AV.sv (li (-1 : Int)) = AV.sv (li (sz (List.length L + sumBy wD L) left))) ∧ True)) := by kernel_rfl
theorem c_szDatumS (L : List Datum) (left : Int) (h0 : 0 ≤ left) (h : left ≤ 2147483647) (ih : ∀ x ∈ L, ∀ (left : Int) (h0 : 0 ≤ left) (h : left ≤ 2147483647), P_c_szDatum x left) 
 : P_c_szDatumS L left := by
  refine CallOK.ofRun wide (run_c_szDatumS L left) Try.call118 Try.func118 rfl rfl rfl ?_
  with_reducible repeat' (first | apply And.intro | exact flatI | exact flatS | exact rowLens | exact ih | (intro; skip) | apply obsN | apply obsC | apply obA | apply obM | apply obB | apply svA | apply tupA | apply lcA | apply lcS | apply svC | apply liC | apply lbC | apply lsC | apply vIc | apply vBc | apply vSc | apply vLc | apply mapC | apply Hc_szDatumSLa | apply Ec_szDatumSLa | apply Sc_szDatumSLa | apply EW0c_szDatumSLa | apply EW1c_szDatumSLa)
  all_goals (try simp only [std] at *)
  all_goals (try (first | with_reducible rfl | omega | assumption | (refine (decide_eq_true ?_).symm; assumption) | (refine (decide_eq_false ?_).symm; assumption) | (refine rowGet ?_; (first | omega | (simp only [std]; omega) | grind)) | (refine getC ?_ rfl; (first | omega | (simp only [std]; omega) | grind)) | (refine fill_step ?_ ?_; (first | omega | (simp only [std]; omega) | grind); (first | rfl | exact (Row.eq _).trans rfl)) | (refine fill_init ?_; (first | rfl | exact (Row.eq _).trans rfl)) | grind [sz, snocI, snocS, rowSnoc]))
theorem run_c_szDatum_s (x : Datum) (left : Int) : aexec Try.prog (Option.getD (Func.body Try.f42) Code.skip) (entry [] [datumA x, li left] 19) [Orc.br [Orc.fin []] [Orc.call
 [Mode.rd, Mode.rd] [] (AV.sv (li (sz (List.length (Datum.items x) + sumBy wD (Datum.items x)) (left - (↑(List.length (Array.toList (ByteArray.data (Datum.text x)))) : Int))))),
 Orc.br [Orc.fin []] [Orc.fin []]]] (finK Try.prog [ResultVar.tmp 4] [] (AV.sv (li (sz (wD x) left)))) = (List.length (Array.toList (ByteArray.data (Datum.text x))) ≤
 9223372036854775807 → rng IntKind.i64 (left - (↑(List.length (Array.toList (ByteArray.data (Datum.text x)))) : Int)) ∧ (decide (left - (↑(List.length (Array.toList (ByteArray.data
 (Datum.text x)))) : Int) < 0) = true → ObsEq [] [] ∧ AV.sv (li (-1 : Int)) = AV.sv (li (sz (wD x) left))) ∧ (decide (left - (↑(List.length (Array.toList (ByteArray.data
 (Datum.text x)))) : Int) < 0) = false → P_c_szDatumS (Datum.items x) (left - (↑(List.length (Array.toList (ByteArray.data (Datum.text x)))) : Int)) ∧ (decide (sz (List.length
 (Datum.items x) + sumBy wD (Datum.items x)) (left - (↑(List.length (Array.toList (ByteArray.data (Datum.text x)))) : Int)) < 0) = true → ObsEq [] [] ∧ AV.sv (li (-1 : Int)) =
 AV.sv (li (sz (wD x) left))) ∧ (decide (sz (List.length (Datum.items x) + sumBy wD (Datum.items x)) (left - (↑(List.length (Array.toList (ByteArray.data (Datum.text x)))) : Int))
 < 0) = false → ObsEq [] [] ∧ AV.sv (li (sz (List.length (Datum.items x) + sumBy wD (Datum.items x)) (left - (↑(List.length (Array.toList (ByteArray.data (Datum.text x)))) :
 Int)))) = AV.sv (li (sz (wD x) left))))) := by kernel_rfl
theorem c_szDatum_s (x : Datum) (left : Int) (h0 : 0 ≤ left) (h : left ≤ 2147483647) (ih : ∀ z ∈ x.items, ∀ (left : Int) (h0 : 0 ≤ left) (h : left ≤ 2147483647), P_c_szDatum z
 left)  : P_c_szDatum x left := by
  refine CallOK.ofRun wide (run_c_szDatum_s x left) Try.call42 Try.func42 rfl rfl rfl ?_
  with_reducible repeat' (first | apply And.intro | exact flatI | exact flatS | exact rowLens | exact ih | (intro; skip) | apply obsN | apply obsC | apply obA | apply obM | apply obB | apply svA | apply tupA | apply lcA | apply lcS | apply svC | apply liC | apply lbC | apply lsC | apply vIc | apply vBc | apply vSc | apply vLc | apply mapC | apply c_szDatumS | apply ih)
  all_goals (try simp only [std] at *)
  all_goals (try (first | with_reducible rfl | omega | assumption | (refine (decide_eq_true ?_).symm; assumption) | (refine (decide_eq_false ?_).symm; assumption) | (refine rowGet ?_; (first | omega | (simp only [std]; omega) | grind)) | (refine getC ?_ rfl; (first | omega | (simp only [std]; omega) | grind)) | (refine fill_step ?_ ?_; (first | omega | (simp only [std]; omega) | grind); (first | rfl | exact (Row.eq _).trans rfl)) | (refine fill_init ?_; (first | rfl | exact (Row.eq _).trans rfl)) | grind [wD_eq, sz, wS, snocI, snocS, rowSnoc]))
theorem c_szDatum (x : Datum) : ∀ (left : Int) (h0 : 0 ≤ left) (h : left ≤ 2147483647), P_c_szDatum x left := Datum.ind (P := fun x => ∀ (left : Int) (h0 : 0 ≤ left) (h : left ≤ 2147483647), P_c_szDatum x left) (fun x ih left h0 h => c_szDatum_s x left h0 h ih) x
abbrev P_c_szCoreS (L : List Core) (left : Int) : Prop := CallOK Try.prog 159 [] [ll (L.map coreC), li left] [] (.sv (li (sz (L.length + sumBy wC L) left)))
abbrev P_c_szCore (x : Core) (left : Int) : Prop := CallOK Try.prog 58 [] [coreA x, li left] [] (.sv (li (sz (wC x) left)))
def Tc_szCoreSLa (L : List Core) (left : Int) (x0 : SV) (x1 : SV) : St := St.mk (regsOf 27 [(0, AV.sv (ll (List.map coreC L))), (1, AV.sv x1), (5, AV.sv x0)]) [] 0 
def Lc_szCoreSLa (L : List Core) (left : Int) (k : Nat × Int) : St := Tc_szCoreSLa L left (li (↑(Prod.fst k) : Int)) (li (Prod.snd k)) 
def Ic_szCoreSLa (L : List Core) (left : Int) : Nat → St → Prop := Head (Lc_szCoreSLa L left) (fun k => Prod.fst k ≤ List.length L ∧ List.length L ≤ 9223372036854775807 ∧ 0 ≤
 Prod.snd k ∧ Prod.snd k ≤ left ∧ sz (sumBy wC (List.drop (Prod.fst k) L)) (Prod.snd k) = sz (List.length L + sumBy wC L) left) fun k => List.length L - Prod.fst k 
def W0c_szCoreSLa (L : List Core) (left : Int) (x0 : SV) : St := St.mk (regsOf 27 [(1, AV.sv x0)]) [] 0 
def W1c_szCoreSLa (L : List Core) (left : Int) (x0 : SV) : St := St.mk (regsOf 27 [(4, AV.sv x0)]) [] 0 
def Yc_szCoreSLa (L : List Core) (left : Int) : List (Prop × AEx × St) := [(0 ≤ sz (List.length L + sumBy wC L) left, AEx.exit 0, W0c_szCoreSLa L left (li (sz (List.length L +
 sumBy wC L) left))), (sz (List.length L + sumBy wC L) left = (-1 : Int), AEx.ret, W1c_szCoreSLa L left (li (-1 : Int)))]
theorem Hc_szCoreSLa {L : List Core} {left : Int} {k : Nat × Int} {m : Nat} (h : (fun k => Prod.fst k ≤ List.length L ∧ List.length L ≤ 9223372036854775807 ∧ 0 ≤ Prod.snd k ∧
 Prod.snd k ≤ left ∧ sz (sumBy wC (List.drop (Prod.fst k) L)) (Prod.snd k) = sz (List.length L + sumBy wC L) left) k) (hm : (fun k => List.length L - Prod.fst k) k = m) :
 Ic_szCoreSLa L left m (Lc_szCoreSLa L left k) := hm ▸ Head.mk h
theorem Ec_szCoreSLa {L : List Core} {left : Int} {k : Nat × Int} {x0 : SV} {x1 : SV} (h0 : x0 = (li (↑(Prod.fst k) : Int))) (h1 : x1 = (li (Prod.snd k))) : Tc_szCoreSLa L left x0
 x1 = Lc_szCoreSLa L left k := by
  rw [h0, h1]
  rfl
theorem EW0c_szCoreSLa {L : List Core} {left : Int} {x0 y0 : SV} (h0 : x0 = y0) : W0c_szCoreSLa L left x0 = W0c_szCoreSLa L left y0 := by rw [h0]
theorem EW1c_szCoreSLa {L : List Core} {left : Int} {x0 y0 : SV} (h0 : x0 = y0) : W1c_szCoreSLa L left x0 = W1c_szCoreSLa L left y0 := by rw [h0]
theorem run_c_szCoreSLa (L : List Core) (left : Int) (k : Nat × Int) : aexec Try.prog (loopAt Try.f159 0) (Lc_szCoreSLa L left k) [Orc.br [Orc.cells (coreF (List.getD L (Prod.fst
 k) default)), Orc.call [Mode.rd, Mode.rd] [] (AV.sv (li (sz (wC (List.getD L (Prod.fst k) default)) (Prod.snd k)))), Orc.br [Orc.ghost (Ghost.sel [] [4]), Orc.out 1] [Orc.ghost
 (Ghost.sel [] [0, 1, 5]), Orc.goto (List.length L - (Prod.fst k + 1)) (Lc_szCoreSLa L left (Prod.fst k + 1, sz (wC (List.getD L (Prod.fst k) default)) (Prod.snd k)))]] [Orc.ghost
 (Ghost.sel [] [1]), Orc.out 0]] (loopK (Ic_szCoreSLa L left) (Yc_szCoreSLa L left) (List.length L - Prod.fst k)) = (List.length (List.map coreC L) ≤ 9223372036854775807 → (decide
 ((↑(Prod.fst k) : Int) < (↑(List.length (List.map coreC L)) : Int)) = true → (0 ≤ (↑(Prod.fst k) : Int) ∧ (List.map coreC L)[Int.toNat (↑(Prod.fst k) : Int)]? = some (coreF
 (List.getD L (Prod.fst k) default))) ∧ P_c_szCore (List.getD L (Prod.fst k) default) (Prod.snd k) ∧ (decide (sz (wC (List.getD L (Prod.fst k) default)) (Prod.snd k) < 0) = true →
 sz (List.length L + sumBy wC L) left = (-1 : Int) ∧ W1c_szCoreSLa L left (li (-1 : Int)) = W1c_szCoreSLa L left (li (-1 : Int))) ∧ (decide (sz (wC (List.getD L (Prod.fst k)
 default)) (Prod.snd k) < 0) = false → rng IntKind.i64 ((↑(Prod.fst k) : Int) + 1) ∧ List.length L - (Prod.fst k + 1) < List.length L - Prod.fst k ∧ Tc_szCoreSLa L left (li
 ((↑(Prod.fst k) : Int) + 1)) (li (sz (wC (List.getD L (Prod.fst k) default)) (Prod.snd k))) = Lc_szCoreSLa L left (Prod.fst k + 1, sz (wC (List.getD L (Prod.fst k) default))
 (Prod.snd k)) ∧ Ic_szCoreSLa L left (List.length L - (Prod.fst k + 1)) (Lc_szCoreSLa L left (Prod.fst k + 1, sz (wC (List.getD L (Prod.fst k) default)) (Prod.snd k))))) ∧ (decide
 ((↑(Prod.fst k) : Int) < (↑(List.length (List.map coreC L)) : Int)) = false → 0 ≤ sz (List.length L + sumBy wC L) left ∧ W0c_szCoreSLa L left (li (Prod.snd k)) = W0c_szCoreSLa L
 left (li (sz (List.length L + sumBy wC L) left)))) := by kernel_rfl
theorem Sc_szCoreSLa (L : List Core) (left : Int) (h0 : 0 ≤ left) (h : left ≤ 2147483647) (ih : ∀ (x : Core), x ∈ L → ∀ (left : Int), 0 ≤ left → left ≤ 2147483647 → P_c_szCore x
 left)  : LoopSem Try.prog (loopAt Try.f159 0) (Ic_szCoreSLa L left) (Yc_szCoreSLa L left) := by
  refine LoopSem.ofHead wide fun k h => ⟨_, _, run_c_szCoreSLa L left k, ?_⟩
  obtain ⟨i, n⟩ := k
  simp only at *
  with_reducible repeat' (first | apply And.intro | exact flatI | exact flatS | exact rowLens | exact ih | (intro; skip) | apply obsN | apply obsC | apply obA | apply obM | apply obB | apply svA | apply tupA | apply lcA | apply lcS | apply svC | apply liC | apply lbC | apply lsC | apply vIc | apply vBc | apply vSc | apply vLc | apply mapC | apply Hc_szCoreSLa | apply Ec_szCoreSLa | apply EW0c_szCoreSLa | apply EW1c_szCoreSLa | apply ih)
  all_goals (try simp only [std] at *)
  all_goals (try (first | with_reducible rfl | omega | assumption | (refine (decide_eq_true ?_).symm; assumption) | (refine (decide_eq_false ?_).symm; assumption) | (refine rowGet ?_; (first | omega | (simp only [std]; omega) | grind)) | (refine getC ?_ rfl; (first | omega | (simp only [std]; omega) | grind)) | (refine fill_step ?_ ?_; (first | omega | (simp only [std]; omega) | grind); (first | rfl | exact (Row.eq _).trans rfl)) | (refine fill_init ?_; (first | rfl | exact (Row.eq _).trans rfl)) | grind [drop_get, sumBy, sz, getD_mem', snocI, snocS, rowSnoc]))
theorem run_c_szCoreS (L : List Core) (left : Int) : aexec Try.prog (Option.getD (Func.body Try.f159) Code.skip) (entry [] [ll (List.map coreC L), li left] 27) [Orc.br [Orc.fin []]
 [Orc.ghost (Ghost.sel [] [0, 1, 5]), Orc.loop (List.length L - 0) (Lc_szCoreSLa L left (0, left - (↑(List.length L) : Int))) (Ic_szCoreSLa L left) [(0 ≤ sz (List.length L + sumBy
 wC L) left, AEx.exit 0, W0c_szCoreSLa L left (li (sz (List.length L + sumBy wC L) left)), [Orc.fin []]), (sz (List.length L + sumBy wC L) left = (-1 : Int), AEx.ret, W1c_szCoreSLa
 L left (li (-1 : Int)), [Orc.fin []])]]] (finK Try.prog [ResultVar.tmp 4] [] (AV.sv (li (sz (List.length L + sumBy wC L) left)))) = (List.length (List.map coreC L) ≤
 9223372036854775807 → rng IntKind.i64 (left - (↑(List.length (List.map coreC L)) : Int)) ∧ (decide (left - (↑(List.length (List.map coreC L)) : Int) < 0) = true → ObsEq [] [] ∧
 AV.sv (li (-1 : Int)) = AV.sv (li (sz (List.length L + sumBy wC L) left))) ∧ (decide (left - (↑(List.length (List.map coreC L)) : Int) < 0) = false → Tc_szCoreSLa L left (li 0)
 (li (left - (↑(List.length (List.map coreC L)) : Int))) = Lc_szCoreSLa L left (0, left - (↑(List.length L) : Int)) ∧ Ic_szCoreSLa L left (List.length L - 0) (Lc_szCoreSLa L left
 (0, left - (↑(List.length L) : Int))) ∧ LoopSem Try.prog (loopAt Try.f159 0) (Ic_szCoreSLa L left) (Yc_szCoreSLa L left) ∧ (Int.NonNeg (sz (List.length L + sumBy wC L) left - 0) →
 ObsEq [] [] ∧ AV.sv (li (sz (List.length L + sumBy wC L) left)) = AV.sv (li (sz (List.length L + sumBy wC L) left))) ∧ (sz (List.length L + sumBy wC L) left = (-1 : Int) → ObsEq
 [] [] ∧ AV.sv (li (-1 : Int)) = AV.sv (li (sz (List.length L + sumBy wC L) left))) ∧ True)) := by kernel_rfl
theorem c_szCoreS (L : List Core) (left : Int) (h0 : 0 ≤ left) (h : left ≤ 2147483647) (ih : ∀ x ∈ L, ∀ (left : Int) (h0 : 0 ≤ left) (h : left ≤ 2147483647), P_c_szCore x left)  :
 P_c_szCoreS L left := by
  refine CallOK.ofRun wide (run_c_szCoreS L left) Try.call159 Try.func159 rfl rfl rfl ?_
  with_reducible repeat' (first | apply And.intro | exact flatI | exact flatS | exact rowLens | exact ih | (intro; skip) | apply obsN | apply obsC | apply obA | apply obM | apply obB | apply svA | apply tupA | apply lcA | apply lcS | apply svC | apply liC | apply lbC | apply lsC | apply vIc | apply vBc | apply vSc | apply vLc | apply mapC | apply Hc_szCoreSLa | apply Ec_szCoreSLa | apply Sc_szCoreSLa | apply EW0c_szCoreSLa | apply EW1c_szCoreSLa)
  all_goals (try simp only [std] at *)
  all_goals (try (first | with_reducible rfl | omega | assumption | (refine (decide_eq_true ?_).symm; assumption) | (refine (decide_eq_false ?_).symm; assumption) | (refine rowGet ?_; (first | omega | (simp only [std]; omega) | grind)) | (refine getC ?_ rfl; (first | omega | (simp only [std]; omega) | grind)) | (refine fill_step ?_ ?_; (first | omega | (simp only [std]; omega) | grind); (first | rfl | exact (Row.eq _).trans rfl)) | (refine fill_init ?_; (first | rfl | exact (Row.eq _).trans rfl)) | grind [sz, snocI, snocS, rowSnoc]))
theorem run_c_szCore_s (x : Core) (left : Int) : aexec Try.prog (Option.getD (Func.body Try.f58) Code.skip) (entry [] [coreA x, li left] 24) [Orc.call [Mode.rd, Mode.rd] [] (AV.sv
 (li (sz (List.length (Core.params x)) left))), Orc.br [Orc.fin []] [Orc.call [Mode.rd, Mode.rd] [] (AV.sv (li (sz (wD (Core.datum x)) (sz (List.length (Core.params x)) left)))),
 Orc.br [Orc.fin []] [Orc.call [Mode.rd, Mode.rd] [] (AV.sv (li (sz (List.length (Core.kids x) + sumBy wC (Core.kids x)) (sz (wD (Core.datum x)) (sz (List.length (Core.params x))
 left))))), Orc.br [Orc.fin []] [Orc.fin []]]]] (finK Try.prog [ResultVar.tmp 4] [] (AV.sv (li (sz (wC x) left)))) = (P_c_szIntS (Core.params x) left ∧ (decide (sz (List.length
 (Core.params x)) left < 0) = true → ObsEq [] [] ∧ AV.sv (li (-1 : Int)) = AV.sv (li (sz (wC x) left))) ∧ (decide (sz (List.length (Core.params x)) left < 0) = false → P_c_szDatum
 (Core.datum x) (sz (List.length (Core.params x)) left) ∧ (decide (sz (wD (Core.datum x)) (sz (List.length (Core.params x)) left) < 0) = true → ObsEq [] [] ∧ AV.sv (li (-1 : Int))
 = AV.sv (li (sz (wC x) left))) ∧ (decide (sz (wD (Core.datum x)) (sz (List.length (Core.params x)) left) < 0) = false → P_c_szCoreS (Core.kids x) (sz (wD (Core.datum x)) (sz
 (List.length (Core.params x)) left)) ∧ (decide (sz (List.length (Core.kids x) + sumBy wC (Core.kids x)) (sz (wD (Core.datum x)) (sz (List.length (Core.params x)) left)) < 0) =
 true → ObsEq [] [] ∧ AV.sv (li (-1 : Int)) = AV.sv (li (sz (wC x) left))) ∧ (decide (sz (List.length (Core.kids x) + sumBy wC (Core.kids x)) (sz (wD (Core.datum x)) (sz
 (List.length (Core.params x)) left)) < 0) = false → ObsEq [] [] ∧ AV.sv (li (sz (List.length (Core.kids x) + sumBy wC (Core.kids x)) (sz (wD (Core.datum x)) (sz (List.length
 (Core.params x)) left)))) = AV.sv (li (sz (wC x) left)))))) := by kernel_rfl
theorem c_szCore_s (x : Core) (left : Int) (h0 : 0 ≤ left) (h : left ≤ 2147483647) (ih : ∀ z ∈ x.kids, ∀ (left : Int) (h0 : 0 ≤ left) (h : left ≤ 2147483647), P_c_szCore z left)  :
 P_c_szCore x left := by
  refine CallOK.ofRun wide (run_c_szCore_s x left) Try.call58 Try.func58 rfl rfl rfl ?_
  with_reducible repeat' (first | apply And.intro | exact flatI | exact flatS | exact rowLens | exact ih | (intro; skip) | apply obsN | apply obsC | apply obA | apply obM | apply obB | apply svA | apply tupA | apply lcA | apply lcS | apply svC | apply liC | apply lbC | apply lsC | apply vIc | apply vBc | apply vSc | apply vLc | apply mapC | apply c_szIntS | apply c_szDatum | apply c_szCoreS | apply ih)
  all_goals (try simp only [std] at *)
  all_goals (try (first | with_reducible rfl | omega | assumption | (refine (decide_eq_true ?_).symm; assumption) | (refine (decide_eq_false ?_).symm; assumption) | (refine rowGet ?_; (first | omega | (simp only [std]; omega) | grind)) | (refine getC ?_ rfl; (first | omega | (simp only [std]; omega) | grind)) | (refine fill_step ?_ ?_; (first | omega | (simp only [std]; omega) | grind); (first | rfl | exact (Row.eq _).trans rfl)) | (refine fill_init ?_; (first | rfl | exact (Row.eq _).trans rfl)) | grind [wC_eq, sz, wS, snocI, snocS, rowSnoc]))
theorem c_szCore (x : Core) : ∀ (left : Int) (h0 : 0 ≤ left) (h : left ≤ 2147483647), P_c_szCore x left := Core.ind (P := fun x => ∀ (left : Int) (h0 : 0 ≤ left) (h : left ≤ 2147483647), P_c_szCore x left) (fun x ih left h0 h => c_szCore_s x left h0 h ih) x
end Go.Proofs.Ytehpjofddjmbpaa
end
section
namespace Go.Proofs.Ytehpjofddjmbpaa
open Go Go.Proofs.Ytehpjofddjmbpaa.Ab
set_option linter.unusedVariables false
set_option linter.unusedSimpArgs false
set_option maxHeartbeats 4000000
abbrev P_c_toIntS (L : List Int) : Prop := CallOK Try.prog 61 [] [ll (L.map intC)] [.arr true 1 (L.map intC)] (.sv (.one (.ref 0)))
def Tc_toIntSLa (L : List Int) (x0 : SV) (x1 : Ob) : St := St.mk (regsOf 22 [(0, AV.sv (ll (List.map intC L))), (3, AV.sv (SV.one (AC.ref 0))), (4, AV.sv x0)]) [x1] 0 
def Lc_toIntSLa (L : List Int) (k : Nat) : St := Tc_toIntSLa L (li (↑k : Int)) (Ob.arr true 1 (List.map intC (fillTo L k))) 
def Ic_toIntSLa (L : List Int) : Nat → St → Prop := Head (Lc_toIntSLa L) (fun k => k ≤ List.length L ∧ List.length L ≤ 9223372036854775807) fun k => List.length L - k 
def W0c_toIntSLa (L : List Int) (x0 : Ob) : St := St.mk (regsOf 22 [(3, AV.sv (SV.one (AC.ref 0)))]) [x0] 0 
def Yc_toIntSLa (L : List Int) : List (Prop × AEx × St) := [(True, AEx.exit 0, W0c_toIntSLa L (Ob.arr true 1 (List.map intC L)))]
theorem Hc_toIntSLa {L : List Int} {k : Nat} {m : Nat} (h : (fun k => k ≤ List.length L ∧ List.length L ≤ 9223372036854775807) k) (hm : (fun k => List.length L - k) k = m) :
 Ic_toIntSLa L m (Lc_toIntSLa L k) := hm ▸ Head.mk h
theorem Ec_toIntSLa {L : List Int} {k : Nat} {x0 : SV} {x1 : Ob} (h0 : x0 = (li (↑k : Int))) (h1 : x1 = (Ob.arr true 1 (List.map intC (fillTo L k)))) : Tc_toIntSLa L x0 x1 =
 Lc_toIntSLa L k := by
  rw [h0, h1]
  rfl
theorem EW0c_toIntSLa {L : List Int} {x0 y0 : Ob} (h0 : x0 = y0) : W0c_toIntSLa L x0 = W0c_toIntSLa L y0 := by rw [h0]
theorem run_c_toIntSLa (L : List Int) (k : Nat) : aexec Try.prog (loopAt Try.f61 0) (Lc_toIntSLa L k) [Orc.br [Orc.cells (intC (List.getD L k default)), Orc.cells (intC (List.getD
 (fillTo L k) (Int.toNat (↑k : Int)) default)), Orc.ghost (Ghost.sel [0] [0, 3, 4]), Orc.goto (List.length L - (k + 1)) (Lc_toIntSLa L (k + 1))] [Orc.ghost (Ghost.sel [0] [3]),
 Orc.out 0]] (loopK (Ic_toIntSLa L) (Yc_toIntSLa L) (List.length L - k)) = (List.length (List.map intC L) ≤ 9223372036854775807 → (decide ((↑k : Int) < (↑(List.length (List.map
 intC L)) : Int)) = true → (0 ≤ (↑k : Int) ∧ (List.map intC L)[Int.toNat (↑k : Int)]? = some [cI (List.getD L k 0)]) ∧ (0 ≤ (↑k : Int) ∧ Int.toNat (↑k : Int) < List.length
 (List.map intC (fillTo L k))) ∧ (List.map intC (fillTo L k))[Int.toNat (↑k : Int)]? = some [cI (List.getD (fillTo L k) (Int.toNat (↑k : Int)) 0)] ∧ rng IntKind.i64 ((↑k : Int) +
 1) ∧ List.length L - (k + 1) < List.length L - k ∧ Tc_toIntSLa L (li ((↑k : Int) + 1)) (Ob.arr true 1 (List.set (List.map intC (fillTo L k)) (Int.toNat (↑k : Int)) [cI (List.getD
 L k 0)])) = Lc_toIntSLa L (k + 1) ∧ Ic_toIntSLa L (List.length L - (k + 1)) (Lc_toIntSLa L (k + 1))) ∧ (decide ((↑k : Int) < (↑(List.length (List.map intC L)) : Int)) = false →
 True ∧ W0c_toIntSLa L (Ob.arr true 1 (List.map intC (fillTo L k))) = W0c_toIntSLa L (Ob.arr true 1 (List.map intC L)))) := by kernel_rfl
theorem Sc_toIntSLa (L : List Int) (h : List.length L ≤ 1048576)  : LoopSem Try.prog (loopAt Try.f61 0) (Ic_toIntSLa L) (Yc_toIntSLa L) := by
  refine LoopSem.ofHead wide fun k h => ⟨_, _, run_c_toIntSLa L k, ?_⟩
  with_reducible repeat' (first | apply And.intro | exact flatI | exact flatS | exact rowLens | (intro; skip) | apply obsN | apply obsC | apply obA | apply obM | apply obB | apply svA | apply tupA | apply lcA | apply lcS | apply svC | apply liC | apply lbC | apply lsC | apply vIc | apply vBc | apply vSc | apply vLc | apply mapC | apply Hc_toIntSLa | apply Ec_toIntSLa | apply EW0c_toIntSLa)
  all_goals (try simp only [std] at *)
  all_goals (try (first | with_reducible rfl | omega | assumption | (refine (decide_eq_true ?_).symm; assumption) | (refine (decide_eq_false ?_).symm; assumption) | (refine rowGet ?_; (first | omega | (simp only [std]; omega) | grind)) | (refine getC ?_ rfl; (first | omega | (simp only [std]; omega) | grind)) | (refine fill_step ?_ ?_; (first | omega | (simp only [std]; omega) | grind); (first | rfl | exact (Row.eq _).trans rfl)) | (refine fill_init ?_; (first | rfl | exact (Row.eq _).trans rfl)) | grind [fillTo_all, snocI, snocS, rowSnoc]))
theorem run_c_toIntS (L : List Int) : aexec Try.prog (Option.getD (Func.body Try.f61) Code.skip) (entry [] [ll (List.map intC L)] 22) [Orc.ghost (Ghost.sel [0] [0, 3, 4]), Orc.loop
 (List.length L - 0) (Lc_toIntSLa L 0) (Ic_toIntSLa L) [(True, AEx.exit 0, W0c_toIntSLa L (Ob.arr true 1 (List.map intC L)), [Orc.fin [0]])]] (finK Try.prog [ResultVar.tmp 2]
 [Ob.arr true 1 (List.map intC L)] (AV.sv (SV.one (AC.ref 0)))) = (List.length (List.map intC L) ≤ 9223372036854775807 → (0 ≤ (↑(List.length (List.map intC L)) : Int) ∧ 8 *
 Int.toNat (↑(List.length (List.map intC L)) : Int) ≤ 281474976710656) ∧ Tc_toIntSLa L (li 0) (Ob.arr true 1 (List.replicate (Int.toNat (↑(List.length (List.map intC L)) : Int))
 [cI 0])) = Lc_toIntSLa L 0 ∧ Ic_toIntSLa L (List.length L - 0) (Lc_toIntSLa L 0) ∧ LoopSem Try.prog (loopAt Try.f61 0) (Ic_toIntSLa L) (Yc_toIntSLa L) ∧ (True → ObsEq [Ob.arr true
 1 (List.map intC L)] [Ob.arr true 1 (List.map intC L)] ∧ AV.sv (SV.one (AC.ref 0)) = AV.sv (SV.one (AC.ref 0))) ∧ True) := by kernel_rfl
theorem c_toIntS (L : List Int) (h : L.length ≤ 1048576)  : P_c_toIntS L := by
  refine CallOK.ofRun wide (run_c_toIntS L) Try.call61 Try.func61 rfl rfl rfl ?_
  with_reducible repeat' (first | apply And.intro | exact flatI | exact flatS | exact rowLens | (intro; skip) | apply obsN | apply obsC | apply obA | apply obM | apply obB | apply svA | apply tupA | apply lcA | apply lcS | apply svC | apply liC | apply lbC | apply lsC | apply vIc | apply vBc | apply vSc | apply vLc | apply mapC | apply Hc_toIntSLa | apply Ec_toIntSLa | apply Sc_toIntSLa | apply EW0c_toIntSLa)
  all_goals (try simp only [std] at *)
  all_goals (try (first | with_reducible rfl | omega | assumption | (refine (decide_eq_true ?_).symm; assumption) | (refine (decide_eq_false ?_).symm; assumption) | (refine rowGet ?_; (first | omega | (simp only [std]; omega) | grind)) | (refine getC ?_ rfl; (first | omega | (simp only [std]; omega) | grind)) | (refine fill_step ?_ ?_; (first | omega | (simp only [std]; omega) | grind); (first | rfl | exact (Row.eq _).trans rfl)) | (refine fill_init ?_; (first | rfl | exact (Row.eq _).trans rfl)) | grind [snocI, snocS, rowSnoc]))
abbrev P_c_toDatumS (L : List Datum) : Prop := CallOK Try.prog 125 [] [ll (L.map datumC)] [.arr true 4 (L.map datumC)] (.sv (.one (.ref 0)))
abbrev P_c_toDatum (x : Datum) : Prop := CallOK Try.prog 44 [] [datumA x] (datumO x) (.sv (datumR x 0))
def Tc_toDatumSLa (L : List Datum) (x0 : SV) (x1 : Ob) : St := St.mk (regsOf 23 [(0, AV.sv (ll (List.map datumC L))), (3, AV.sv (SV.one (AC.ref 0))), (4, AV.sv x0)]) [x1] 0 
def Lc_toDatumSLa (L : List Datum) (k : Nat) : St := Tc_toDatumSLa L (li (↑k : Int)) (Ob.arr true 4 (List.map datumC (fillTo L k))) 
def Ic_toDatumSLa (L : List Datum) : Nat → St → Prop := Head (Lc_toDatumSLa L) (fun k => k ≤ List.length L ∧ List.length L ≤ 9223372036854775807) fun k => List.length L - k 
def W0c_toDatumSLa (L : List Datum) (x0 : Ob) : St := St.mk (regsOf 23 [(3, AV.sv (SV.one (AC.ref 0)))]) [x0] 0 
def Yc_toDatumSLa (L : List Datum) : List (Prop × AEx × St) := [(True, AEx.exit 0, W0c_toDatumSLa L (Ob.arr true 4 (List.map datumC L)))]
theorem Hc_toDatumSLa {L : List Datum} {k : Nat} {m : Nat} (h : (fun k => k ≤ List.length L ∧ List.length L ≤ 9223372036854775807) k) (hm : (fun k => List.length L - k) k = m) :
 Ic_toDatumSLa L m (Lc_toDatumSLa L k) := hm ▸ Head.mk h
theorem Ec_toDatumSLa {L : List Datum} {k : Nat} {x0 : SV} {x1 : Ob} (h0 : x0 = (li (↑k : Int))) (h1 : x1 = (Ob.arr true 4 (List.map datumC (fillTo L k)))) : Tc_toDatumSLa L x0 x1
 = Lc_toDatumSLa L k := by
  rw [h0, h1]
  rfl
theorem EW0c_toDatumSLa {L : List Datum} {x0 y0 : Ob} (h0 : x0 = y0) : W0c_toDatumSLa L x0 = W0c_toDatumSLa L y0 := by rw [h0]
theorem run_c_toDatumSLa (L : List Datum) (k : Nat) : aexec Try.prog (loopAt Try.f125 0) (Lc_toDatumSLa L k) [Orc.br [Orc.cells (datumF (List.getD L k default)), Orc.call [Mode.rd]
 (datumO (List.getD L k default)) (AV.sv (datumR (List.getD L k default) 0)), Orc.cells (datumF (List.getD (fillTo L k) (Int.toNat (↑k : Int)) default)), Orc.ghost (Ghost.sel [0]
 [0, 3, 4]), Orc.goto (List.length L - (k + 1)) (Lc_toDatumSLa L (k + 1))] [Orc.ghost (Ghost.sel [0] [3]), Orc.out 0]] (loopK (Ic_toDatumSLa L) (Yc_toDatumSLa L) (List.length L -
 k)) = (List.length (List.map datumC L) ≤ 9223372036854775807 → (decide ((↑k : Int) < (↑(List.length (List.map datumC L)) : Int)) = true → (0 ≤ (↑k : Int) ∧ (List.map datumC
 L)[Int.toNat (↑k : Int)]? = some (datumF (List.getD L k default))) ∧ P_c_toDatum (List.getD L k default) ∧ (0 ≤ (↑k : Int) ∧ Int.toNat (↑k : Int) < List.length (List.map datumC
 (fillTo L k))) ∧ (List.map datumC (fillTo L k))[Int.toNat (↑k : Int)]? = some (datumF (List.getD (fillTo L k) (Int.toNat (↑k : Int)) default)) ∧ rng IntKind.i64 ((↑k : Int) + 1) ∧
 List.length L - (k + 1) < List.length L - k ∧ Tc_toDatumSLa L (li ((↑k : Int) + 1)) (Ob.arr true 4 (List.set (List.map datumC (fillTo L k)) (Int.toNat (↑k : Int)) (datumF
 (List.getD L k default)))) = Lc_toDatumSLa L (k + 1) ∧ Ic_toDatumSLa L (List.length L - (k + 1)) (Lc_toDatumSLa L (k + 1))) ∧ (decide ((↑k : Int) < (↑(List.length (List.map datumC
 L)) : Int)) = false → True ∧ W0c_toDatumSLa L (Ob.arr true 4 (List.map datumC (fillTo L k))) = W0c_toDatumSLa L (Ob.arr true 4 (List.map datumC L)))) := by kernel_rfl
theorem Sc_toDatumSLa (L : List Datum) (h : List.length L + sumBy wD L ≤ 1048576) (ih : ∀ (x : Datum), x ∈ L → wD x ≤ 1048576 → P_c_toDatum x)  : LoopSem Try.prog (loopAt Try.f125
 0) (Ic_toDatumSLa L) (Yc_toDatumSLa L) := by
  refine LoopSem.ofHead wide fun k h => ⟨_, _, run_c_toDatumSLa L k, ?_⟩
  with_reducible repeat' (first | apply And.intro | exact flatI | exact flatS | exact rowLens | exact ih | (intro; skip) | apply obsN | apply obsC | apply obA | apply obM | apply obB | apply svA | apply tupA | apply lcA | apply lcS | apply svC | apply liC | apply lbC | apply lsC | apply vIc | apply vBc | apply vSc | apply vLc | apply mapC | apply Hc_toDatumSLa | apply Ec_toDatumSLa | apply EW0c_toDatumSLa | apply ih)
  all_goals (try simp only [std] at *)
  all_goals (try (first | with_reducible rfl | omega | assumption | (refine (decide_eq_true ?_).symm; assumption) | (refine (decide_eq_false ?_).symm; assumption) | (refine rowGet ?_; (first | omega | (simp only [std]; omega) | grind)) | (refine getC ?_ rfl; (first | omega | (simp only [std]; omega) | grind)) | (refine fill_step ?_ ?_; (first | omega | (simp only [std]; omega) | grind); (first | rfl | exact (Row.eq _).trans rfl)) | (refine fill_init ?_; (first | rfl | exact (Row.eq _).trans rfl)) | grind [fillTo_all, getD_mem', sumBy_mem, snocI, snocS, rowSnoc]))
theorem run_c_toDatumS (L : List Datum) : aexec Try.prog (Option.getD (Func.body Try.f125) Code.skip) (entry [] [ll (List.map datumC L)] 23) [Orc.ghost (Ghost.sel [0] [0, 3, 4]),
 Orc.loop (List.length L - 0) (Lc_toDatumSLa L 0) (Ic_toDatumSLa L) [(True, AEx.exit 0, W0c_toDatumSLa L (Ob.arr true 4 (List.map datumC L)), [Orc.fin [0]])]] (finK Try.prog
 [ResultVar.tmp 2] [Ob.arr true 4 (List.map datumC L)] (AV.sv (SV.one (AC.ref 0)))) = (List.length (List.map datumC L) ≤ 9223372036854775807 → (0 ≤ (↑(List.length (List.map datumC
 L)) : Int) ∧ 56 * Int.toNat (↑(List.length (List.map datumC L)) : Int) ≤ 281474976710656) ∧ Tc_toDatumSLa L (li 0) (Ob.arr true 4 (List.replicate (Int.toNat (↑(List.length
 (List.map datumC L)) : Int)) [cI 0, cI 0, cS (ByteArray.mk #[]), Cell.list []])) = Lc_toDatumSLa L 0 ∧ Ic_toDatumSLa L (List.length L - 0) (Lc_toDatumSLa L 0) ∧ LoopSem Try.prog
 (loopAt Try.f125 0) (Ic_toDatumSLa L) (Yc_toDatumSLa L) ∧ (True → ObsEq [Ob.arr true 4 (List.map datumC L)] [Ob.arr true 4 (List.map datumC L)] ∧ AV.sv (SV.one (AC.ref 0)) = AV.sv
 (SV.one (AC.ref 0))) ∧ True) := by kernel_rfl
theorem c_toDatumS (L : List Datum) (h : L.length + sumBy wD L ≤ 1048576) (ih : ∀ x ∈ L, ∀ (h : wD x ≤ 1048576), P_c_toDatum x)  : P_c_toDatumS L := by
  refine CallOK.ofRun wide (run_c_toDatumS L) Try.call125 Try.func125 rfl rfl rfl ?_
  with_reducible repeat' (first | apply And.intro | exact flatI | exact flatS | exact rowLens | exact ih | (intro; skip) | apply obsN | apply obsC | apply obA | apply obM | apply obB | apply svA | apply tupA | apply lcA | apply lcS | apply svC | apply liC | apply lbC | apply lsC | apply vIc | apply vBc | apply vSc | apply vLc | apply mapC | apply Hc_toDatumSLa | apply Ec_toDatumSLa | apply Sc_toDatumSLa | apply EW0c_toDatumSLa)
  all_goals (try simp only [std] at *)
  all_goals (try (first | with_reducible rfl | omega | assumption | (refine (decide_eq_true ?_).symm; assumption) | (refine (decide_eq_false ?_).symm; assumption) | (refine rowGet ?_; (first | omega | (simp only [std]; omega) | grind)) | (refine getC ?_ rfl; (first | omega | (simp only [std]; omega) | grind)) | (refine fill_step ?_ ?_; (first | omega | (simp only [std]; omega) | grind); (first | rfl | exact (Row.eq _).trans rfl)) | (refine fill_init ?_; (first | rfl | exact (Row.eq _).trans rfl)) | grind [snocI, snocS, rowSnoc]))
theorem run_c_toDatum_s (x : Datum) : aexec Try.prog (Option.getD (Func.body Try.f44) Code.skip) (entry [] [datumA x] 18) [Orc.call [Mode.rd] [Ob.arr true 4 (List.map datumC
 (Datum.items x))] (AV.sv (SV.one (AC.ref 0))), Orc.fin [3]] (finK Try.prog [ResultVar.cell 2 66] (datumO x) (AV.sv (datumR x 0))) = (P_c_toDatumS (Datum.items x) ∧ ObsEq [Ob.arr
 true 4 (List.map datumC (Datum.items x))] [Ob.arr true 4 (List.map datumC (Datum.items x))] ∧ AV.sv (SV.agg [vI (Datum.kind x), vI (Datum.number x), vS (Datum.text x), AC.ref 0])
 = AV.sv (SV.agg [vI (Datum.kind x), vI (Datum.number x), vS (Datum.text x), AC.ref 0])) := by kernel_rfl
theorem c_toDatum_s (x : Datum) (h : wD x ≤ 1048576) (ih : ∀ z ∈ x.items, ∀ (h : wD z ≤ 1048576), P_c_toDatum z)  : P_c_toDatum x := by
  refine CallOK.ofRun wide (run_c_toDatum_s x) Try.call44 Try.func44 rfl rfl rfl ?_
  with_reducible repeat' (first | apply And.intro | exact flatI | exact flatS | exact rowLens | exact ih | (intro; skip) | apply obsN | apply obsC | apply obA | apply obM | apply obB | apply svA | apply tupA | apply lcA | apply lcS | apply svC | apply liC | apply lbC | apply lsC | apply vIc | apply vBc | apply vSc | apply vLc | apply mapC | apply c_toDatumS | apply ih)
  all_goals (try simp only [std] at *)
  all_goals (try (first | with_reducible rfl | omega | assumption | (refine (decide_eq_true ?_).symm; assumption) | (refine (decide_eq_false ?_).symm; assumption) | (refine rowGet ?_; (first | omega | (simp only [std]; omega) | grind)) | (refine getC ?_ rfl; (first | omega | (simp only [std]; omega) | grind)) | (refine fill_step ?_ ?_; (first | omega | (simp only [std]; omega) | grind); (first | rfl | exact (Row.eq _).trans rfl)) | (refine fill_init ?_; (first | rfl | exact (Row.eq _).trans rfl)) | grind [wD_eq, wS, snocI, snocS, rowSnoc]))
theorem c_toDatum (x : Datum) : ∀ (h : wD x ≤ 1048576), P_c_toDatum x := Datum.ind (P := fun x => ∀ (h : wD x ≤ 1048576), P_c_toDatum x) (fun x ih h => c_toDatum_s x h ih) x
abbrev P_c_toCoreS (L : List Core) : Prop := CallOK Try.prog 167 [] [ll (L.map coreC)] [.arr true 8 (L.map coreC)] (.sv (.one (.ref 0)))
abbrev P_c_toCore (x : Core) : Prop := CallOK Try.prog 60 [] [coreA x] (coreO x) (.sv (coreR x 0))
def Tc_toCoreSLa (L : List Core) (x0 : SV) (x1 : Ob) : St := St.mk (regsOf 23 [(0, AV.sv (ll (List.map coreC L))), (3, AV.sv (SV.one (AC.ref 0))), (4, AV.sv x0)]) [x1] 0 
def Lc_toCoreSLa (L : List Core) (k : Nat) : St := Tc_toCoreSLa L (li (↑k : Int)) (Ob.arr true 8 (List.map coreC (fillTo L k))) 
def Ic_toCoreSLa (L : List Core) : Nat → St → Prop := Head (Lc_toCoreSLa L) (fun k => k ≤ List.length L ∧ List.length L ≤ 9223372036854775807) fun k => List.length L - k 
def W0c_toCoreSLa (L : List Core) (x0 : Ob) : St := St.mk (regsOf 23 [(3, AV.sv (SV.one (AC.ref 0)))]) [x0] 0 
def Yc_toCoreSLa (L : List Core) : List (Prop × AEx × St) := [(True, AEx.exit 0, W0c_toCoreSLa L (Ob.arr true 8 (List.map coreC L)))]
theorem Hc_toCoreSLa {L : List Core} {k : Nat} {m : Nat} (h : (fun k => k ≤ List.length L ∧ List.length L ≤ 9223372036854775807) k) (hm : (fun k => List.length L - k) k = m) :
 Ic_toCoreSLa L m (Lc_toCoreSLa L k) := hm ▸ Head.mk h
theorem Ec_toCoreSLa {L : List Core} {k : Nat} {x0 : SV} {x1 : Ob} (h0 : x0 = (li (↑k : Int))) (h1 : x1 = (Ob.arr true 8 (List.map coreC (fillTo L k)))) : Tc_toCoreSLa L x0 x1 =
 Lc_toCoreSLa L k := by
  rw [h0, h1]
  rfl
theorem EW0c_toCoreSLa {L : List Core} {x0 y0 : Ob} (h0 : x0 = y0) : W0c_toCoreSLa L x0 = W0c_toCoreSLa L y0 := by rw [h0]
theorem run_c_toCoreSLa (L : List Core) (k : Nat) : aexec Try.prog (loopAt Try.f167 0) (Lc_toCoreSLa L k) [Orc.br [Orc.cells (coreF (List.getD L k default)), Orc.call [Mode.rd]
 (coreO (List.getD L k default)) (AV.sv (coreR (List.getD L k default) 0)), Orc.cells (coreF (List.getD (fillTo L k) (Int.toNat (↑k : Int)) default)), Orc.ghost (Ghost.sel [0] [0,
 3, 4]), Orc.goto (List.length L - (k + 1)) (Lc_toCoreSLa L (k + 1))] [Orc.ghost (Ghost.sel [0] [3]), Orc.out 0]] (loopK (Ic_toCoreSLa L) (Yc_toCoreSLa L) (List.length L - k)) =
 (List.length (List.map coreC L) ≤ 9223372036854775807 → (decide ((↑k : Int) < (↑(List.length (List.map coreC L)) : Int)) = true → (0 ≤ (↑k : Int) ∧ (List.map coreC L)[Int.toNat
 (↑k : Int)]? = some (coreF (List.getD L k default))) ∧ P_c_toCore (List.getD L k default) ∧ (0 ≤ (↑k : Int) ∧ Int.toNat (↑k : Int) < List.length (List.map coreC (fillTo L k))) ∧
 (List.map coreC (fillTo L k))[Int.toNat (↑k : Int)]? = some (coreF (List.getD (fillTo L k) (Int.toNat (↑k : Int)) default)) ∧ rng IntKind.i64 ((↑k : Int) + 1) ∧ List.length L - (k
 + 1) < List.length L - k ∧ Tc_toCoreSLa L (li ((↑k : Int) + 1)) (Ob.arr true 8 (List.set (List.map coreC (fillTo L k)) (Int.toNat (↑k : Int)) (coreF (List.getD L k default)))) =
 Lc_toCoreSLa L (k + 1) ∧ Ic_toCoreSLa L (List.length L - (k + 1)) (Lc_toCoreSLa L (k + 1))) ∧ (decide ((↑k : Int) < (↑(List.length (List.map coreC L)) : Int)) = false → True ∧
 W0c_toCoreSLa L (Ob.arr true 8 (List.map coreC (fillTo L k))) = W0c_toCoreSLa L (Ob.arr true 8 (List.map coreC L)))) := by kernel_rfl
theorem Sc_toCoreSLa (L : List Core) (h : List.length L + sumBy wC L ≤ 1048576) (ih : ∀ (x : Core), x ∈ L → wC x ≤ 1048576 → P_c_toCore x)  : LoopSem Try.prog (loopAt Try.f167 0)
 (Ic_toCoreSLa L) (Yc_toCoreSLa L) := by
  refine LoopSem.ofHead wide fun k h => ⟨_, _, run_c_toCoreSLa L k, ?_⟩
  with_reducible repeat' (first | apply And.intro | exact flatI | exact flatS | exact rowLens | exact ih | (intro; skip) | apply obsN | apply obsC | apply obA | apply obM | apply obB | apply svA | apply tupA | apply lcA | apply lcS | apply svC | apply liC | apply lbC | apply lsC | apply vIc | apply vBc | apply vSc | apply vLc | apply mapC | apply Hc_toCoreSLa | apply Ec_toCoreSLa | apply EW0c_toCoreSLa | apply ih)
  all_goals (try simp only [std] at *)
  all_goals (try (first | with_reducible rfl | omega | assumption | (refine (decide_eq_true ?_).symm; assumption) | (refine (decide_eq_false ?_).symm; assumption) | (refine rowGet ?_; (first | omega | (simp only [std]; omega) | grind)) | (refine getC ?_ rfl; (first | omega | (simp only [std]; omega) | grind)) | (refine fill_step ?_ ?_; (first | omega | (simp only [std]; omega) | grind); (first | rfl | exact (Row.eq _).trans rfl)) | (refine fill_init ?_; (first | rfl | exact (Row.eq _).trans rfl)) | grind [fillTo_all, getD_mem', sumBy_mem, snocI, snocS, rowSnoc]))
theorem run_c_toCoreS (L : List Core) : aexec Try.prog (Option.getD (Func.body Try.f167) Code.skip) (entry [] [ll (List.map coreC L)] 23) [Orc.ghost (Ghost.sel [0] [0, 3, 4]),
 Orc.loop (List.length L - 0) (Lc_toCoreSLa L 0) (Ic_toCoreSLa L) [(True, AEx.exit 0, W0c_toCoreSLa L (Ob.arr true 8 (List.map coreC L)), [Orc.fin [0]])]] (finK Try.prog
 [ResultVar.tmp 2] [Ob.arr true 8 (List.map coreC L)] (AV.sv (SV.one (AC.ref 0)))) = (List.length (List.map coreC L) ≤ 9223372036854775807 → (0 ≤ (↑(List.length (List.map coreC L))
 : Int) ∧ 120 * Int.toNat (↑(List.length (List.map coreC L)) : Int) ≤ 281474976710656) ∧ Tc_toCoreSLa L (li 0) (Ob.arr true 8 (List.replicate (Int.toNat (↑(List.length (List.map
 coreC L)) : Int)) [cI 0, cI 0, Cell.list [], cI 0, cI 0, cS (ByteArray.mk #[]), Cell.list [], Cell.list []])) = Lc_toCoreSLa L 0 ∧ Ic_toCoreSLa L (List.length L - 0) (Lc_toCoreSLa
 L 0) ∧ LoopSem Try.prog (loopAt Try.f167 0) (Ic_toCoreSLa L) (Yc_toCoreSLa L) ∧ (True → ObsEq [Ob.arr true 8 (List.map coreC L)] [Ob.arr true 8 (List.map coreC L)] ∧ AV.sv (SV.one
 (AC.ref 0)) = AV.sv (SV.one (AC.ref 0))) ∧ True) := by kernel_rfl
theorem c_toCoreS (L : List Core) (h : L.length + sumBy wC L ≤ 1048576) (ih : ∀ x ∈ L, ∀ (h : wC x ≤ 1048576), P_c_toCore x)  : P_c_toCoreS L := by
  refine CallOK.ofRun wide (run_c_toCoreS L) Try.call167 Try.func167 rfl rfl rfl ?_
  with_reducible repeat' (first | apply And.intro | exact flatI | exact flatS | exact rowLens | exact ih | (intro; skip) | apply obsN | apply obsC | apply obA | apply obM | apply obB | apply svA | apply tupA | apply lcA | apply lcS | apply svC | apply liC | apply lbC | apply lsC | apply vIc | apply vBc | apply vSc | apply vLc | apply mapC | apply Hc_toCoreSLa | apply Ec_toCoreSLa | apply Sc_toCoreSLa | apply EW0c_toCoreSLa)
  all_goals (try simp only [std] at *)
  all_goals (try (first | with_reducible rfl | omega | assumption | (refine (decide_eq_true ?_).symm; assumption) | (refine (decide_eq_false ?_).symm; assumption) | (refine rowGet ?_; (first | omega | (simp only [std]; omega) | grind)) | (refine getC ?_ rfl; (first | omega | (simp only [std]; omega) | grind)) | (refine fill_step ?_ ?_; (first | omega | (simp only [std]; omega) | grind); (first | rfl | exact (Row.eq _).trans rfl)) | (refine fill_init ?_; (first | rfl | exact (Row.eq _).trans rfl)) | grind [snocI, snocS, rowSnoc]))
theorem run_c_toCore_s (x : Core) : aexec Try.prog (Option.getD (Func.body Try.f60) Code.skip) (entry [] [coreA x] 23) [Orc.call [Mode.rd] [Ob.arr true 1 (List.map intC
 (Core.params x))] (AV.sv (SV.one (AC.ref 0))), Orc.call [Mode.rd] (datumO (Core.datum x)) (AV.sv (datumR (Core.datum x) 0)), Orc.call [Mode.rd] [Ob.arr true 8 (List.map coreC
 (Core.kids x))] (AV.sv (SV.one (AC.ref 0))), Orc.fin [3, 4, 5]] (finK Try.prog [ResultVar.cell 2 95] (coreO x) (AV.sv (coreR x 0))) = (P_c_toIntS (Core.params x) ∧ P_c_toDatum
 (Core.datum x) ∧ P_c_toCoreS (Core.kids x) ∧ ObsEq [Ob.arr true 1 (List.map intC (Core.params x)), Ob.arr true 4 (List.map datumC (Datum.items (Core.datum x))), Ob.arr true 8
 (List.map coreC (Core.kids x))] [Ob.arr true 1 (List.map intC (Core.params x)), Ob.arr true 4 (List.map datumC (Datum.items (Core.datum x))), Ob.arr true 8 (List.map coreC
 (Core.kids x))] ∧ AV.sv (SV.agg [vI (Core.kind x), vI (Core.number x), AC.ref 0, vI (Datum.kind (Core.datum x)), vI (Datum.number (Core.datum x)), vS (Datum.text (Core.datum x)),
 AC.ref 1, AC.ref 2]) = AV.sv (SV.agg [vI (Core.kind x), vI (Core.number x), AC.ref 0, vI (Datum.kind (Core.datum x)), vI (Datum.number (Core.datum x)), vS (Datum.text (Core.datum
 x)), AC.ref 1, AC.ref 2])) := by kernel_rfl
theorem c_toCore_s (x : Core) (h : wC x ≤ 1048576) (ih : ∀ z ∈ x.kids, ∀ (h : wC z ≤ 1048576), P_c_toCore z)  : P_c_toCore x := by
  refine CallOK.ofRun wide (run_c_toCore_s x) Try.call60 Try.func60 rfl rfl rfl ?_
  with_reducible repeat' (first | apply And.intro | exact flatI | exact flatS | exact rowLens | exact ih | (intro; skip) | apply obsN | apply obsC | apply obA | apply obM | apply obB | apply svA | apply tupA | apply lcA | apply lcS | apply svC | apply liC | apply lbC | apply lsC | apply vIc | apply vBc | apply vSc | apply vLc | apply mapC | apply c_toIntS | apply c_toDatum | apply c_toCoreS | apply ih)
  all_goals (try simp only [std] at *)
  all_goals (try (first | with_reducible rfl | omega | assumption | (refine (decide_eq_true ?_).symm; assumption) | (refine (decide_eq_false ?_).symm; assumption) | (refine rowGet ?_; (first | omega | (simp only [std]; omega) | grind)) | (refine getC ?_ rfl; (first | omega | (simp only [std]; omega) | grind)) | (refine fill_step ?_ ?_; (first | omega | (simp only [std]; omega) | grind); (first | rfl | exact (Row.eq _).trans rfl)) | (refine fill_init ?_; (first | rfl | exact (Row.eq _).trans rfl)) | grind [wC_eq, wS, snocI, snocS, rowSnoc]))
theorem c_toCore (x : Core) : ∀ (h : wC x ≤ 1048576), P_c_toCore x := Core.ind (P := fun x => ∀ (h : wC x ≤ 1048576), P_c_toCore x) (fun x ih h => c_toCore_s x h ih) x
end Go.Proofs.Ytehpjofddjmbpaa
end
section
namespace Go.Proofs.Ytehpjofddjmbpaa
open Go Go.Proofs.Ytehpjofddjmbpaa.Ab
set_option linter.unusedVariables false
set_option linter.unusedSimpArgs false
set_option maxHeartbeats 4000000
abbrev P_c_eqIntS (A : List Int) (B : List Int) : Prop := CallOK Try.prog 28 [] [ll (A.map intC), ll (B.map intC)] [] (.sv (lb (decide (A = B))))
def Tc_eqIntSLa (A : List Int) (B : List Int) (x0 : SV) : St := St.mk (regsOf 26 [(0, AV.sv (ll (List.map intC A))), (1, AV.sv (ll (List.map intC B))), (5, AV.sv x0)]) [] 0 
def Lc_eqIntSLa (A : List Int) (B : List Int) (k : Nat) : St := Tc_eqIntSLa A B (li (↑k : Int)) 
def Ic_eqIntSLa (A : List Int) (B : List Int) : Nat → St → Prop := Head (Lc_eqIntSLa A B) (fun k => k ≤ List.length A ∧ List.length A ≤ 9223372036854775807 ∧ List.length A =
 List.length B ∧ List.take k A = List.take k B) fun k => List.length A - k 
def W0c_eqIntSLa (A : List Int) (B : List Int) : St := St.mk (regsOf 26 []) [] 0 
def W1c_eqIntSLa (A : List Int) (B : List Int) (x0 : SV) : St := St.mk (regsOf 26 [(4, AV.sv x0)]) [] 0 
def Yc_eqIntSLa (A : List Int) (B : List Int) : List (Prop × AEx × St) := [(A = B, AEx.exit 0, W0c_eqIntSLa A B), (A ≠ B, AEx.ret, W1c_eqIntSLa A B (lb false))]
theorem Hc_eqIntSLa {A : List Int} {B : List Int} {k : Nat} {m : Nat} (h : (fun k => k ≤ List.length A ∧ List.length A ≤ 9223372036854775807 ∧ List.length A = List.length B ∧
 List.take k A = List.take k B) k) (hm : (fun k => List.length A - k) k = m) : Ic_eqIntSLa A B m (Lc_eqIntSLa A B k) := hm ▸ Head.mk h
theorem Ec_eqIntSLa {A : List Int} {B : List Int} {k : Nat} {x0 : SV} (h0 : x0 = (li (↑k : Int))) : Tc_eqIntSLa A B x0 = Lc_eqIntSLa A B k := by
  rw [h0]
  rfl
theorem EW1c_eqIntSLa {A : List Int} {B : List Int} {x0 y0 : SV} (h0 : x0 = y0) : W1c_eqIntSLa A B x0 = W1c_eqIntSLa A B y0 := by rw [h0]
theorem run_c_eqIntSLa (A : List Int) (B : List Int) (k : Nat) : aexec Try.prog (loopAt Try.f28 0) (Lc_eqIntSLa A B k) [Orc.br [Orc.draw [], Orc.cells (intC (List.getD A k
 default)), Orc.cells (intC (List.getD B k default)), Orc.br [Orc.ghost (Ghost.sel [] [4]), Orc.out 1] [Orc.ghost (Ghost.sel [] [0, 1, 5]), Orc.goto (List.length A - (k + 1))
 (Lc_eqIntSLa A B (k + 1))]] [Orc.ghost (Ghost.sel [] []), Orc.out 0]] (loopK (Ic_eqIntSLa A B) (Yc_eqIntSLa A B) (List.length A - k)) = (List.length (List.map intC A) ≤
 9223372036854775807 → (decide ((↑k : Int) < (↑(List.length (List.map intC A)) : Int)) = true → (0 ≤ (↑k : Int) ∧ (List.map intC A)[Int.toNat (↑k : Int)]? = some [cI (List.getD A k
 0)]) ∧ (0 ≤ (↑k : Int) ∧ (List.map intC B)[Int.toNat (↑k : Int)]? = some [cI (List.getD B k 0)]) ∧ (decide (List.getD A k (0 : Int) ≠ List.getD B k 0) = true → A ≠ B ∧
 W1c_eqIntSLa A B (lb false) = W1c_eqIntSLa A B (lb false)) ∧ (decide (List.getD A k (0 : Int) ≠ List.getD B k 0) = false → rng IntKind.i64 ((↑k : Int) + 1) ∧ List.length A - (k +
 1) < List.length A - k ∧ Tc_eqIntSLa A B (li ((↑k : Int) + 1)) = Lc_eqIntSLa A B (k + 1) ∧ Ic_eqIntSLa A B (List.length A - (k + 1)) (Lc_eqIntSLa A B (k + 1)))) ∧ (decide ((↑k :
 Int) < (↑(List.length (List.map intC A)) : Int)) = false → A = B ∧ W0c_eqIntSLa A B = W0c_eqIntSLa A B)) := by kernel_rfl
theorem Sc_eqIntSLa (A : List Int) (B : List Int)  : LoopSem Try.prog (loopAt Try.f28 0) (Ic_eqIntSLa A B) (Yc_eqIntSLa A B) := by
  refine LoopSem.ofHead wide fun k h => ⟨_, _, run_c_eqIntSLa A B k, ?_⟩
  with_reducible repeat' (first | apply And.intro | exact flatI | exact flatS | exact rowLens | (intro; skip) | apply obsN | apply obsC | apply obA | apply obM | apply obB | apply svA | apply tupA | apply lcA | apply lcS | apply svC | apply liC | apply lbC | apply lsC | apply vIc | apply vBc | apply vSc | apply vLc | apply mapC | apply Hc_eqIntSLa | apply Ec_eqIntSLa | apply EW1c_eqIntSLa)
  all_goals (try simp only [std] at *)
  all_goals (try (first | with_reducible rfl | omega | assumption | (refine (decide_eq_true ?_).symm; assumption) | (refine (decide_eq_false ?_).symm; assumption) | (refine rowGet ?_; (first | omega | (simp only [std]; omega) | grind)) | (refine getC ?_ rfl; (first | omega | (simp only [std]; omega) | grind)) | (refine fill_step ?_ ?_; (first | omega | (simp only [std]; omega) | grind); (first | rfl | exact (Row.eq _).trans rfl)) | (refine fill_init ?_; (first | rfl | exact (Row.eq _).trans rfl)) | grind [take_eq, snocI, snocS, rowSnoc]))
theorem run_c_eqIntS (A : List Int) (B : List Int) : aexec Try.prog (Option.getD (Func.body Try.f28) Code.skip) (entry [] [ll (List.map intC A), ll (List.map intC B)] 26) [Orc.br
 [Orc.fin []] [Orc.ghost (Ghost.sel [] [0, 1, 5]), Orc.loop (List.length A - 0) (Lc_eqIntSLa A B 0) (Ic_eqIntSLa A B) [(A = B, AEx.exit 0, W0c_eqIntSLa A B, [Orc.fin []]), (A ≠ B,
 AEx.ret, W1c_eqIntSLa A B (lb false), [Orc.fin []])]]] (finK Try.prog [ResultVar.tmp 4] [] (AV.sv (lb (decide (A = B))))) = (List.length (List.map intC A) ≤ 9223372036854775807 →
 List.length (List.map intC B) ≤ 9223372036854775807 → (decide ((↑(List.length (List.map intC A)) : Int) ≠ (↑(List.length (List.map intC B)) : Int)) = true → ObsEq [] [] ∧ AV.sv
 (lb false) = AV.sv (lb (decide (A = B)))) ∧ (decide ((↑(List.length (List.map intC A)) : Int) ≠ (↑(List.length (List.map intC B)) : Int)) = false → Tc_eqIntSLa A B (li 0) =
 Lc_eqIntSLa A B 0 ∧ Ic_eqIntSLa A B (List.length A - 0) (Lc_eqIntSLa A B 0) ∧ LoopSem Try.prog (loopAt Try.f28 0) (Ic_eqIntSLa A B) (Yc_eqIntSLa A B) ∧ (A = B → ObsEq [] [] ∧
 AV.sv (lb true) = AV.sv (lb (decide (A = B)))) ∧ ((A = B → False) → ObsEq [] [] ∧ AV.sv (lb false) = AV.sv (lb (decide (A = B)))) ∧ True)) := by kernel_rfl
theorem c_eqIntS (A B : List Int)  : P_c_eqIntS A B := by
  refine CallOK.ofRun wide (run_c_eqIntS A B) Try.call28 Try.func28 rfl rfl rfl ?_
  with_reducible repeat' (first | apply And.intro | exact flatI | exact flatS | exact rowLens | (intro; skip) | apply obsN | apply obsC | apply obA | apply obM | apply obB | apply svA | apply tupA | apply lcA | apply lcS | apply svC | apply liC | apply lbC | apply lsC | apply vIc | apply vBc | apply vSc | apply vLc | apply mapC | apply Hc_eqIntSLa | apply Ec_eqIntSLa | apply Sc_eqIntSLa | apply EW1c_eqIntSLa)
  all_goals (try simp only [std] at *)
  all_goals (try (first | with_reducible rfl | omega | assumption | (refine (decide_eq_true ?_).symm; assumption) | (refine (decide_eq_false ?_).symm; assumption) | (refine rowGet ?_; (first | omega | (simp only [std]; omega) | grind)) | (refine getC ?_ rfl; (first | omega | (simp only [std]; omega) | grind)) | (refine fill_step ?_ ?_; (first | omega | (simp only [std]; omega) | grind); (first | rfl | exact (Row.eq _).trans rfl)) | (refine fill_init ?_; (first | rfl | exact (Row.eq _).trans rfl)) | grind [snocI, snocS, rowSnoc]))
abbrev P_c_eqDatumS (A : List Datum) (B : List Datum) : Prop := CallOK Try.prog 131 [] [ll (A.map datumC), ll (B.map datumC)] [] (.sv (lb (decide (A = B))))
abbrev P_c_eqDatum (x : Datum) (y : Datum) : Prop := CallOK Try.prog 46 [] [datumA x, datumA y] [] (.sv (lb (decide (x = y))))
def Tc_eqDatumSLa (A : List Datum) (B : List Datum) (x0 : SV) : St := St.mk (regsOf 27 [(0, AV.sv (ll (List.map datumC A))), (1, AV.sv (ll (List.map datumC B))), (5, AV.sv x0)]) []
 0 
def Lc_eqDatumSLa (A : List Datum) (B : List Datum) (k : Nat) : St := Tc_eqDatumSLa A B (li (↑k : Int)) 
def Ic_eqDatumSLa (A : List Datum) (B : List Datum) : Nat → St → Prop := Head (Lc_eqDatumSLa A B) (fun k => k ≤ List.length A ∧ List.length A ≤ 9223372036854775807 ∧ List.length A
 = List.length B ∧ List.take k A = List.take k B) fun k => List.length A - k 
def W0c_eqDatumSLa (A : List Datum) (B : List Datum) : St := St.mk (regsOf 27 []) [] 0 
def W1c_eqDatumSLa (A : List Datum) (B : List Datum) (x0 : SV) : St := St.mk (regsOf 27 [(4, AV.sv x0)]) [] 0 
def Yc_eqDatumSLa (A : List Datum) (B : List Datum) : List (Prop × AEx × St) := [(A = B, AEx.exit 0, W0c_eqDatumSLa A B), (A ≠ B, AEx.ret, W1c_eqDatumSLa A B (lb false))]
theorem Hc_eqDatumSLa {A : List Datum} {B : List Datum} {k : Nat} {m : Nat} (h : (fun k => k ≤ List.length A ∧ List.length A ≤ 9223372036854775807 ∧ List.length A = List.length B ∧
 List.take k A = List.take k B) k) (hm : (fun k => List.length A - k) k = m) : Ic_eqDatumSLa A B m (Lc_eqDatumSLa A B k) := hm ▸ Head.mk h
theorem Ec_eqDatumSLa {A : List Datum} {B : List Datum} {k : Nat} {x0 : SV} (h0 : x0 = (li (↑k : Int))) : Tc_eqDatumSLa A B x0 = Lc_eqDatumSLa A B k := by
  rw [h0]
  rfl
theorem EW1c_eqDatumSLa {A : List Datum} {B : List Datum} {x0 y0 : SV} (h0 : x0 = y0) : W1c_eqDatumSLa A B x0 = W1c_eqDatumSLa A B y0 := by rw [h0]
theorem run_c_eqDatumSLa (A : List Datum) (B : List Datum) (k : Nat) : aexec Try.prog (loopAt Try.f131 0) (Lc_eqDatumSLa A B k) [Orc.br [Orc.draw [], Orc.cells (datumF (List.getD A
 k default)), Orc.cells (datumF (List.getD B k default)), Orc.call [Mode.rd, Mode.rd] [] (AV.sv (lb (decide (List.getD A k default = List.getD B k default)))), Orc.br [Orc.ghost
 (Ghost.sel [] [4]), Orc.out 1] [Orc.ghost (Ghost.sel [] [0, 1, 5]), Orc.goto (List.length A - (k + 1)) (Lc_eqDatumSLa A B (k + 1))]] [Orc.ghost (Ghost.sel [] []), Orc.out 0]]
 (loopK (Ic_eqDatumSLa A B) (Yc_eqDatumSLa A B) (List.length A - k)) = (List.length (List.map datumC A) ≤ 9223372036854775807 → (decide ((↑k : Int) < (↑(List.length (List.map
 datumC A)) : Int)) = true → (0 ≤ (↑k : Int) ∧ (List.map datumC A)[Int.toNat (↑k : Int)]? = some (datumF (List.getD A k default))) ∧ (0 ≤ (↑k : Int) ∧ (List.map datumC B)[Int.toNat
 (↑k : Int)]? = some (datumF (List.getD B k default))) ∧ P_c_eqDatum (List.getD A k default) (List.getD B k default) ∧ ((!decide (List.getD A k default = List.getD B k default)) =
 true → A ≠ B ∧ W1c_eqDatumSLa A B (lb false) = W1c_eqDatumSLa A B (lb false)) ∧ ((!decide (List.getD A k default = List.getD B k default)) = false → rng IntKind.i64 ((↑k : Int) +
 1) ∧ List.length A - (k + 1) < List.length A - k ∧ Tc_eqDatumSLa A B (li ((↑k : Int) + 1)) = Lc_eqDatumSLa A B (k + 1) ∧ Ic_eqDatumSLa A B (List.length A - (k + 1)) (Lc_eqDatumSLa
 A B (k + 1)))) ∧ (decide ((↑k : Int) < (↑(List.length (List.map datumC A)) : Int)) = false → A = B ∧ W0c_eqDatumSLa A B = W0c_eqDatumSLa A B)) := by kernel_rfl
theorem Sc_eqDatumSLa (A : List Datum) (B : List Datum) (ih : ∀ (x : Datum), x ∈ A → ∀ (y : Datum), P_c_eqDatum x y)  : LoopSem Try.prog (loopAt Try.f131 0) (Ic_eqDatumSLa A B)
 (Yc_eqDatumSLa A B) := by
  refine LoopSem.ofHead wide fun k h => ⟨_, _, run_c_eqDatumSLa A B k, ?_⟩
  with_reducible repeat' (first | apply And.intro | exact flatI | exact flatS | exact rowLens | exact ih | (intro; skip) | apply obsN | apply obsC | apply obA | apply obM | apply obB | apply svA | apply tupA | apply lcA | apply lcS | apply svC | apply liC | apply lbC | apply lsC | apply vIc | apply vBc | apply vSc | apply vLc | apply mapC | apply Hc_eqDatumSLa | apply Ec_eqDatumSLa | apply EW1c_eqDatumSLa | apply ih)
  all_goals (try simp only [std] at *)
  all_goals (try (first | with_reducible rfl | omega | assumption | (refine (decide_eq_true ?_).symm; assumption) | (refine (decide_eq_false ?_).symm; assumption) | (refine rowGet ?_; (first | omega | (simp only [std]; omega) | grind)) | (refine getC ?_ rfl; (first | omega | (simp only [std]; omega) | grind)) | (refine fill_step ?_ ?_; (first | omega | (simp only [std]; omega) | grind); (first | rfl | exact (Row.eq _).trans rfl)) | (refine fill_init ?_; (first | rfl | exact (Row.eq _).trans rfl)) | grind [take_eq, getD_mem', snocI, snocS, rowSnoc]))
theorem run_c_eqDatumS (A : List Datum) (B : List Datum) : aexec Try.prog (Option.getD (Func.body Try.f131) Code.skip) (entry [] [ll (List.map datumC A), ll (List.map datumC B)]
 27) [Orc.br [Orc.fin []] [Orc.ghost (Ghost.sel [] [0, 1, 5]), Orc.loop (List.length A - 0) (Lc_eqDatumSLa A B 0) (Ic_eqDatumSLa A B) [(A = B, AEx.exit 0, W0c_eqDatumSLa A B,
 [Orc.fin []]), (A ≠ B, AEx.ret, W1c_eqDatumSLa A B (lb false), [Orc.fin []])]]] (finK Try.prog [ResultVar.tmp 4] [] (AV.sv (lb (decide (A = B))))) = (List.length (List.map datumC
 A) ≤ 9223372036854775807 → List.length (List.map datumC B) ≤ 9223372036854775807 → (decide ((↑(List.length (List.map datumC A)) : Int) ≠ (↑(List.length (List.map datumC B)) :
 Int)) = true → ObsEq [] [] ∧ AV.sv (lb false) = AV.sv (lb (decide (A = B)))) ∧ (decide ((↑(List.length (List.map datumC A)) : Int) ≠ (↑(List.length (List.map datumC B)) : Int)) =
 false → Tc_eqDatumSLa A B (li 0) = Lc_eqDatumSLa A B 0 ∧ Ic_eqDatumSLa A B (List.length A - 0) (Lc_eqDatumSLa A B 0) ∧ LoopSem Try.prog (loopAt Try.f131 0) (Ic_eqDatumSLa A B)
 (Yc_eqDatumSLa A B) ∧ (A = B → ObsEq [] [] ∧ AV.sv (lb true) = AV.sv (lb (decide (A = B)))) ∧ ((A = B → False) → ObsEq [] [] ∧ AV.sv (lb false) = AV.sv (lb (decide (A = B)))) ∧
 True)) := by kernel_rfl
theorem c_eqDatumS (A B : List Datum) (ih : ∀ x ∈ A, ∀ (y : Datum), P_c_eqDatum x y)  : P_c_eqDatumS A B := by
  refine CallOK.ofRun wide (run_c_eqDatumS A B) Try.call131 Try.func131 rfl rfl rfl ?_
  with_reducible repeat' (first | apply And.intro | exact flatI | exact flatS | exact rowLens | exact ih | (intro; skip) | apply obsN | apply obsC | apply obA | apply obM | apply obB | apply svA | apply tupA | apply lcA | apply lcS | apply svC | apply liC | apply lbC | apply lsC | apply vIc | apply vBc | apply vSc | apply vLc | apply mapC | apply Hc_eqDatumSLa | apply Ec_eqDatumSLa | apply Sc_eqDatumSLa | apply EW1c_eqDatumSLa)
  all_goals (try simp only [std] at *)
  all_goals (try (first | with_reducible rfl | omega | assumption | (refine (decide_eq_true ?_).symm; assumption) | (refine (decide_eq_false ?_).symm; assumption) | (refine rowGet ?_; (first | omega | (simp only [std]; omega) | grind)) | (refine getC ?_ rfl; (first | omega | (simp only [std]; omega) | grind)) | (refine fill_step ?_ ?_; (first | omega | (simp only [std]; omega) | grind); (first | rfl | exact (Row.eq _).trans rfl)) | (refine fill_init ?_; (first | rfl | exact (Row.eq _).trans rfl)) | grind [snocI, snocS, rowSnoc]))
theorem run_c_eqDatum_s (x : Datum) (y : Datum) : aexec Try.prog (Option.getD (Func.body Try.f46) Code.skip) (entry [] [datumA x, datumA y] 26) [Orc.br [Orc.fin []] [Orc.br
 [Orc.fin []] [Orc.br [Orc.fin []] [Orc.call [Mode.rd, Mode.rd] [] (AV.sv (lb (decide (Datum.items x = Datum.items y)))), Orc.br [Orc.fin []] [Orc.fin []]]]]] (finK Try.prog
 [ResultVar.tmp 4] [] (AV.sv (lb (decide (x = y))))) = ((decide (Datum.kind x ≠ Datum.kind y) = true → ObsEq [] [] ∧ AV.sv (lb false) = AV.sv (lb (decide (x = y)))) ∧ (decide
 (Datum.kind x ≠ Datum.kind y) = false → (decide (Datum.number x ≠ Datum.number y) = true → ObsEq [] [] ∧ AV.sv (lb false) = AV.sv (lb (decide (x = y)))) ∧ (decide (Datum.number x
 ≠ Datum.number y) = false → (decide (Array.toList (ByteArray.data (Datum.text x)) ≠ Array.toList (ByteArray.data (Datum.text y))) = true → ObsEq [] [] ∧ AV.sv (lb false) = AV.sv
 (lb (decide (x = y)))) ∧ (decide (Array.toList (ByteArray.data (Datum.text x)) ≠ Array.toList (ByteArray.data (Datum.text y))) = false → P_c_eqDatumS (Datum.items x) (Datum.items
 y) ∧ ((!decide (Datum.items x = Datum.items y)) = true → ObsEq [] [] ∧ AV.sv (lb false) = AV.sv (lb (decide (x = y)))) ∧ ((!decide (Datum.items x = Datum.items y)) = false → ObsEq
 [] [] ∧ AV.sv (lb true) = AV.sv (lb (decide (x = y)))))))) := by kernel_rfl
theorem c_eqDatum_s (x y : Datum) (ih : ∀ z ∈ x.items, ∀ (y : Datum), P_c_eqDatum z y)  : P_c_eqDatum x y := by
  refine CallOK.ofRun wide (run_c_eqDatum_s x y) Try.call46 Try.func46 rfl rfl rfl ?_
  simp only [datumExt]
  with_reducible repeat' (first | apply And.intro | exact flatI | exact flatS | exact rowLens | exact ih | (intro; skip) | apply obsN | apply obsC | apply obA | apply obM | apply obB | apply svA | apply tupA | apply lcA | apply lcS | apply svC | apply liC | apply lbC | apply lsC | apply vIc | apply vBc | apply vSc | apply vLc | apply mapC | apply c_eqDatumS | apply ih)
  all_goals (try simp only [std] at *)
  all_goals (try (first | with_reducible rfl | omega | assumption | (refine (decide_eq_true ?_).symm; assumption) | (refine (decide_eq_false ?_).symm; assumption) | (refine rowGet ?_; (first | omega | (simp only [std]; omega) | grind)) | (refine getC ?_ rfl; (first | omega | (simp only [std]; omega) | grind)) | (refine fill_step ?_ ?_; (first | omega | (simp only [std]; omega) | grind); (first | rfl | exact (Row.eq _).trans rfl)) | (refine fill_init ?_; (first | rfl | exact (Row.eq _).trans rfl)) | grind [bytes_ext, snocI, snocS, rowSnoc]))
theorem c_eqDatum (x : Datum) : ∀ (y : Datum), P_c_eqDatum x y := Datum.ind (P := fun x => ∀ (y : Datum), P_c_eqDatum x y) (fun x ih y => c_eqDatum_s x y ih) x
abbrev P_c_eqCoreS (A : List Core) (B : List Core) : Prop := CallOK Try.prog 171 [] [ll (A.map coreC), ll (B.map coreC)] [] (.sv (lb (decide (A = B))))
abbrev P_c_eqCore (x : Core) (y : Core) : Prop := CallOK Try.prog 63 [] [coreA x, coreA y] [] (.sv (lb (decide (x = y))))
def Tc_eqCoreSLa (A : List Core) (B : List Core) (x0 : SV) : St := St.mk (regsOf 27 [(0, AV.sv (ll (List.map coreC A))), (1, AV.sv (ll (List.map coreC B))), (5, AV.sv x0)]) [] 0 
def Lc_eqCoreSLa (A : List Core) (B : List Core) (k : Nat) : St := Tc_eqCoreSLa A B (li (↑k : Int)) 
def Ic_eqCoreSLa (A : List Core) (B : List Core) : Nat → St → Prop := Head (Lc_eqCoreSLa A B) (fun k => k ≤ List.length A ∧ List.length A ≤ 9223372036854775807 ∧ List.length A =
 List.length B ∧ List.take k A = List.take k B) fun k => List.length A - k 
def W0c_eqCoreSLa (A : List Core) (B : List Core) : St := St.mk (regsOf 27 []) [] 0 
def W1c_eqCoreSLa (A : List Core) (B : List Core) (x0 : SV) : St := St.mk (regsOf 27 [(4, AV.sv x0)]) [] 0 
def Yc_eqCoreSLa (A : List Core) (B : List Core) : List (Prop × AEx × St) := [(A = B, AEx.exit 0, W0c_eqCoreSLa A B), (A ≠ B, AEx.ret, W1c_eqCoreSLa A B (lb false))]
theorem Hc_eqCoreSLa {A : List Core} {B : List Core} {k : Nat} {m : Nat} (h : (fun k => k ≤ List.length A ∧ List.length A ≤ 9223372036854775807 ∧ List.length A = List.length B ∧
 List.take k A = List.take k B) k) (hm : (fun k => List.length A - k) k = m) : Ic_eqCoreSLa A B m (Lc_eqCoreSLa A B k) := hm ▸ Head.mk h
theorem Ec_eqCoreSLa {A : List Core} {B : List Core} {k : Nat} {x0 : SV} (h0 : x0 = (li (↑k : Int))) : Tc_eqCoreSLa A B x0 = Lc_eqCoreSLa A B k := by
  rw [h0]
  rfl
theorem EW1c_eqCoreSLa {A : List Core} {B : List Core} {x0 y0 : SV} (h0 : x0 = y0) : W1c_eqCoreSLa A B x0 = W1c_eqCoreSLa A B y0 := by rw [h0]
theorem run_c_eqCoreSLa (A : List Core) (B : List Core) (k : Nat) : aexec Try.prog (loopAt Try.f171 0) (Lc_eqCoreSLa A B k) [Orc.br [Orc.draw [], Orc.cells (coreF (List.getD A k
 default)), Orc.cells (coreF (List.getD B k default)), Orc.call [Mode.rd, Mode.rd] [] (AV.sv (lb (decide (List.getD A k default = List.getD B k default)))), Orc.br [Orc.ghost
 (Ghost.sel [] [4]), Orc.out 1] [Orc.ghost (Ghost.sel [] [0, 1, 5]), Orc.goto (List.length A - (k + 1)) (Lc_eqCoreSLa A B (k + 1))]] [Orc.ghost (Ghost.sel [] []), Orc.out 0]]
 (loopK (Ic_eqCoreSLa A B) (Yc_eqCoreSLa A B) (List.length A - k)) = (List.length (List.map coreC A) ≤ 9223372036854775807 → (decide ((↑k : Int) < (↑(List.length (List.map coreC
 A)) : Int)) = true → (0 ≤ (↑k : Int) ∧ (List.map coreC A)[Int.toNat (↑k : Int)]? = some (coreF (List.getD A k default))) ∧ (0 ≤ (↑k : Int) ∧ (List.map coreC B)[Int.toNat (↑k :
 Int)]? = some (coreF (List.getD B k default))) ∧ P_c_eqCore (List.getD A k default) (List.getD B k default) ∧ ((!decide (List.getD A k default = List.getD B k default)) = true → A
 ≠ B ∧ W1c_eqCoreSLa A B (lb false) = W1c_eqCoreSLa A B (lb false)) ∧ ((!decide (List.getD A k default = List.getD B k default)) = false → rng IntKind.i64 ((↑k : Int) + 1) ∧
 List.length A - (k + 1) < List.length A - k ∧ Tc_eqCoreSLa A B (li ((↑k : Int) + 1)) = Lc_eqCoreSLa A B (k + 1) ∧ Ic_eqCoreSLa A B (List.length A - (k + 1)) (Lc_eqCoreSLa A B (k +
 1)))) ∧ (decide ((↑k : Int) < (↑(List.length (List.map coreC A)) : Int)) = false → A = B ∧ W0c_eqCoreSLa A B = W0c_eqCoreSLa A B)) := by kernel_rfl
theorem Sc_eqCoreSLa (A : List Core) (B : List Core) (ih : ∀ (x : Core), x ∈ A → ∀ (y : Core), P_c_eqCore x y)  : LoopSem Try.prog (loopAt Try.f171 0) (Ic_eqCoreSLa A B)
 (Yc_eqCoreSLa A B) := by
  refine LoopSem.ofHead wide fun k h => ⟨_, _, run_c_eqCoreSLa A B k, ?_⟩
  with_reducible repeat' (first | apply And.intro | exact flatI | exact flatS | exact rowLens | exact ih | (intro; skip) | apply obsN | apply obsC | apply obA | apply obM | apply obB | apply svA | apply tupA | apply lcA | apply lcS | apply svC | apply liC | apply lbC | apply lsC | apply vIc | apply vBc | apply vSc | apply vLc | apply mapC | apply Hc_eqCoreSLa | apply Ec_eqCoreSLa | apply EW1c_eqCoreSLa | apply ih)
  all_goals (try simp only [std] at *)
  all_goals (try (first | with_reducible rfl | omega | assumption | (refine (decide_eq_true ?_).symm; assumption) | (refine (decide_eq_false ?_).symm; assumption) | (refine rowGet ?_; (first | omega | (simp only [std]; omega) | grind)) | (refine getC ?_ rfl; (first | omega | (simp only [std]; omega) | grind)) | (refine fill_step ?_ ?_; (first | omega | (simp only [std]; omega) | grind); (first | rfl | exact (Row.eq _).trans rfl)) | (refine fill_init ?_; (first | rfl | exact (Row.eq _).trans rfl)) | grind [take_eq, getD_mem', snocI, snocS, rowSnoc]))
theorem run_c_eqCoreS (A : List Core) (B : List Core) : aexec Try.prog (Option.getD (Func.body Try.f171) Code.skip) (entry [] [ll (List.map coreC A), ll (List.map coreC B)] 27)
 [Orc.br [Orc.fin []] [Orc.ghost (Ghost.sel [] [0, 1, 5]), Orc.loop (List.length A - 0) (Lc_eqCoreSLa A B 0) (Ic_eqCoreSLa A B) [(A = B, AEx.exit 0, W0c_eqCoreSLa A B, [Orc.fin
 []]), (A ≠ B, AEx.ret, W1c_eqCoreSLa A B (lb false), [Orc.fin []])]]] (finK Try.prog [ResultVar.tmp 4] [] (AV.sv (lb (decide (A = B))))) = (List.length (List.map coreC A) ≤
 9223372036854775807 → List.length (List.map coreC B) ≤ 9223372036854775807 → (decide ((↑(List.length (List.map coreC A)) : Int) ≠ (↑(List.length (List.map coreC B)) : Int)) = true
 → ObsEq [] [] ∧ AV.sv (lb false) = AV.sv (lb (decide (A = B)))) ∧ (decide ((↑(List.length (List.map coreC A)) : Int) ≠ (↑(List.length (List.map coreC B)) : Int)) = false →
 Tc_eqCoreSLa A B (li 0) = Lc_eqCoreSLa A B 0 ∧ Ic_eqCoreSLa A B (List.length A - 0) (Lc_eqCoreSLa A B 0) ∧ LoopSem Try.prog (loopAt Try.f171 0) (Ic_eqCoreSLa A B) (Yc_eqCoreSLa A
 B) ∧ (A = B → ObsEq [] [] ∧ AV.sv (lb true) = AV.sv (lb (decide (A = B)))) ∧ ((A = B → False) → ObsEq [] [] ∧ AV.sv (lb false) = AV.sv (lb (decide (A = B)))) ∧ True)) := by
 kernel_rfl
theorem c_eqCoreS (A B : List Core) (ih : ∀ x ∈ A, ∀ (y : Core), P_c_eqCore x y)  : P_c_eqCoreS A B := by
  refine CallOK.ofRun wide (run_c_eqCoreS A B) Try.call171 Try.func171 rfl rfl rfl ?_
  with_reducible repeat' (first | apply And.intro | exact flatI | exact flatS | exact rowLens | exact ih | (intro; skip) | apply obsN | apply obsC | apply obA | apply obM | apply obB | apply svA | apply tupA | apply lcA | apply lcS | apply svC | apply liC | apply lbC | apply lsC | apply vIc | apply vBc | apply vSc | apply vLc | apply mapC | apply Hc_eqCoreSLa | apply Ec_eqCoreSLa | apply Sc_eqCoreSLa | apply EW1c_eqCoreSLa)
  all_goals (try simp only [std] at *)
  all_goals (try (first | with_reducible rfl | omega | assumption | (refine (decide_eq_true ?_).symm; assumption) | (refine (decide_eq_false ?_).symm; assumption) | (refine rowGet ?_; (first | omega | (simp only [std]; omega) | grind)) | (refine getC ?_ rfl; (first | omega | (simp only [std]; omega) | grind)) | (refine fill_step ?_ ?_; (first | omega | (simp only [std]; omega) | grind); (first | rfl | exact (Row.eq _).trans rfl)) | (refine fill_init ?_; (first | rfl | exact (Row.eq _).trans rfl)) | grind [snocI, snocS, rowSnoc]))
theorem run_c_eqCore_s (x : Core) (y : Core) : aexec Try.prog (Option.getD (Func.body Try.f63) Code.skip) (entry [] [coreA x, coreA y] 33) [Orc.br [Orc.fin []] [Orc.br [Orc.fin []]
 [Orc.call [Mode.rd, Mode.rd] [] (AV.sv (lb (decide (Core.params x = Core.params y)))), Orc.br [Orc.fin []] [Orc.call [Mode.rd, Mode.rd] [] (AV.sv (lb (decide (Core.datum x =
 Core.datum y)))), Orc.br [Orc.fin []] [Orc.call [Mode.rd, Mode.rd] [] (AV.sv (lb (decide (Core.kids x = Core.kids y)))), Orc.br [Orc.fin []] [Orc.fin []]]]]]] (finK Try.prog
 [ResultVar.tmp 4] [] (AV.sv (lb (decide (x = y))))) = ((decide (Core.kind x ≠ Core.kind y) = true → ObsEq [] [] ∧ AV.sv (lb false) = AV.sv (lb (decide (x = y)))) ∧ (decide
 (Core.kind x ≠ Core.kind y) = false → (decide (Core.number x ≠ Core.number y) = true → ObsEq [] [] ∧ AV.sv (lb false) = AV.sv (lb (decide (x = y)))) ∧ (decide (Core.number x ≠
 Core.number y) = false → P_c_eqIntS (Core.params x) (Core.params y) ∧ ((!decide (Core.params x = Core.params y)) = true → ObsEq [] [] ∧ AV.sv (lb false) = AV.sv (lb (decide (x =
 y)))) ∧ ((!decide (Core.params x = Core.params y)) = false → P_c_eqDatum (Core.datum x) (Core.datum y) ∧ ((!decide (Core.datum x = Core.datum y)) = true → ObsEq [] [] ∧ AV.sv (lb
 false) = AV.sv (lb (decide (x = y)))) ∧ ((!decide (Core.datum x = Core.datum y)) = false → P_c_eqCoreS (Core.kids x) (Core.kids y) ∧ ((!decide (Core.kids x = Core.kids y)) = true
 → ObsEq [] [] ∧ AV.sv (lb false) = AV.sv (lb (decide (x = y)))) ∧ ((!decide (Core.kids x = Core.kids y)) = false → ObsEq [] [] ∧ AV.sv (lb true) = AV.sv (lb (decide (x =
 y))))))))) := by kernel_rfl
theorem c_eqCore_s (x y : Core) (ih : ∀ z ∈ x.kids, ∀ (y : Core), P_c_eqCore z y)  : P_c_eqCore x y := by
  refine CallOK.ofRun wide (run_c_eqCore_s x y) Try.call63 Try.func63 rfl rfl rfl ?_
  simp only [coreExt]
  with_reducible repeat' (first | apply And.intro | exact flatI | exact flatS | exact rowLens | exact ih | (intro; skip) | apply obsN | apply obsC | apply obA | apply obM | apply obB | apply svA | apply tupA | apply lcA | apply lcS | apply svC | apply liC | apply lbC | apply lsC | apply vIc | apply vBc | apply vSc | apply vLc | apply mapC | apply c_eqIntS | apply c_eqDatum | apply c_eqCoreS | apply ih)
  all_goals (try simp only [std] at *)
  all_goals (try (first | with_reducible rfl | omega | assumption | (refine (decide_eq_true ?_).symm; assumption) | (refine (decide_eq_false ?_).symm; assumption) | (refine rowGet ?_; (first | omega | (simp only [std]; omega) | grind)) | (refine getC ?_ rfl; (first | omega | (simp only [std]; omega) | grind)) | (refine fill_step ?_ ?_; (first | omega | (simp only [std]; omega) | grind); (first | rfl | exact (Row.eq _).trans rfl)) | (refine fill_init ?_; (first | rfl | exact (Row.eq _).trans rfl)) | grind [bytes_ext, snocI, snocS, rowSnoc]))
theorem c_eqCore (x : Core) : ∀ (y : Core), P_c_eqCore x y := Core.ind (P := fun x => ∀ (y : Core), P_c_eqCore x y) (fun x ih y => c_eqCore_s x y ih) x
end Go.Proofs.Ytehpjofddjmbpaa
end
section
namespace Go.Proofs.Ytehpjofddjmbpaa
open Go Go.Proofs.Ytehpjofddjmbpaa.Ab
set_option linter.unusedVariables false
set_option linter.unusedSimpArgs false
set_option maxHeartbeats 4000000
abbrev P_c_LAlpha (a : Core) (b : Core) : Prop := CallOK Try.prog 13 [] [coreA a, coreA b] [] (.sv (lb true))
theorem run_c_LAlpha (a : Core) (b : Core) : aexec Try.prog (Option.getD (Func.body Try.f13) Code.skip) (entry [] [coreA a, coreA b] 45) [Orc.call [Mode.rd, Mode.rd] [] (AV.sv (li
 (sz (wC a) 1048576))), Orc.br [Orc.fin []] [Orc.call [Mode.rd, Mode.rd] [] (AV.sv (li (sz (wC b) (sz (wC a) 1048576)))), Orc.br [Orc.fin []] [Orc.draw [], Orc.call [Mode.rd]
 (coreO a) (AV.sv (coreR a 0)), Orc.call [Mode.rd] (coreO b) (AV.sv (coreR b 0)), Orc.call [Mode.rd, Mode.rd] [] (AV.sv (lb (valC a && valC b && alf a b [] []))), Orc.call
 [Mode.rd] (coreO a) (AV.sv (coreR a 0)), Orc.call [Mode.rd] (coreO b) (AV.sv (coreR b 0)), Orc.call [Mode.rd, Mode.rd] [] (AV.sv (lb (valC a && valC b && alf a b [] []))), Orc.br
 [Orc.fin []] [Orc.draw [], Orc.call [Mode.rd] (coreO a) (AV.sv (coreR a 0)), Orc.call [Mode.rd, Mode.rd] [] (AV.sv (lb (decide (a = a)))), Orc.br [Orc.fin []] [Orc.draw [],
 Orc.call [Mode.rd] (coreO b) (AV.sv (coreR b 0)), Orc.call [Mode.rd, Mode.rd] [] (AV.sv (lb (decide (b = b)))), Orc.br [Orc.fin []] [Orc.fin []]]]]]] (finK Try.prog [ResultVar.tmp
 4] [] (AV.sv (lb true))) = (P_c_szCore a 1048576 ∧ (decide (sz (wC a) (1048576 : Int) < 0) = true → ObsEq [] [] ∧ AV.sv (lb true) = AV.sv (lb true)) ∧ (decide (sz (wC a) (1048576
 : Int) < 0) = false → P_c_szCore b (sz (wC a) 1048576) ∧ (decide (sz (wC b) (sz (wC a) 1048576) < 0) = true → ObsEq [] [] ∧ AV.sv (lb true) = AV.sv (lb true)) ∧ (decide (sz (wC b)
 (sz (wC a) 1048576) < 0) = false → P_c_toCore a ∧ P_c_toCore b ∧ P_c_sAlphaEqual a b ∧ P_c_toCore a ∧ P_c_toCore b ∧ P_c_iAlphaEqual a b ∧ (decide ((valC a && valC b && alf a b []
 []) ≠ (valC a && valC b && alf a b [] [])) = true → ObsEq [] [] ∧ AV.sv (lb false) = AV.sv (lb true)) ∧ (decide ((valC a && valC b && alf a b [] []) ≠ (valC a && valC b && alf a b
 [] [])) = false → P_c_toCore a ∧ P_c_eqCore a a ∧ ((!decide (a = a)) = true → ObsEq [] [] ∧ AV.sv (lb false) = AV.sv (lb true)) ∧ ((!decide (a = a)) = false → P_c_toCore b ∧
 P_c_eqCore b b ∧ ((!decide (b = b)) = true → ObsEq [] [] ∧ AV.sv (lb false) = AV.sv (lb true)) ∧ ((!decide (b = b)) = false → ObsEq [] [] ∧ AV.sv (lb true) = AV.sv (lb true)))))))
 := by kernel_rfl
theorem c_LAlpha (a b : Core)  : P_c_LAlpha a b := by
  refine CallOK.ofRun wide (run_c_LAlpha a b) Try.call13 Try.func13 rfl rfl rfl ?_
  with_reducible repeat' (first | apply And.intro | exact flatI | exact flatS | exact rowLens | (intro; skip) | apply obsN | apply obsC | apply obA | apply obM | apply obB | apply svA | apply tupA | apply lcA | apply lcS | apply svC | apply liC | apply lbC | apply lsC | apply vIc | apply vBc | apply vSc | apply vLc | apply mapC | apply c_szCore | apply c_toCore | apply c_eqCore | apply c_sAlphaEqual | apply c_iAlphaEqual)
  all_goals (try simp only [std] at *)
  all_goals (try (first | with_reducible apply c_szCore | with_reducible apply c_toCore | with_reducible apply c_eqCore | with_reducible apply c_sAlphaEqual | with_reducible apply c_iAlphaEqual | (simp only [← List.map_append]; first | with_reducible apply c_szCore | with_reducible apply c_toCore | with_reducible apply c_eqCore | with_reducible apply c_sAlphaEqual | with_reducible apply c_iAlphaEqual)))
  all_goals (try (first | with_reducible rfl | omega | assumption | (refine (decide_eq_true ?_).symm; assumption) | (refine (decide_eq_false ?_).symm; assumption) | (refine rowGet ?_; (first | omega | (simp only [std]; omega) | grind)) | (refine getC ?_ rfl; (first | omega | (simp only [std]; omega) | grind)) | (refine fill_step ?_ ?_; (first | omega | (simp only [std]; omega) | grind); (first | rfl | exact (Row.eq _).trans rfl)) | (refine fill_init ?_; (first | rfl | exact (Row.eq _).trans rfl)) | (show (_ : St) = _; rfl) | grind [sz, snocI, snocS, rowSnoc]))
end Go.Proofs.Ytehpjofddjmbpaa
end
section
namespace Go.Proofs.Ytehpjofddjmbpaa.fnExactAlphaEqual
open Go Go.ChangeShapes Go.WideShapes Go.ChangeAt Go.RowKit Go.Proofs.Ytehpjofddjmbpaa.Ab
set_option linter.unusedVariables false
theorem own : ownKnob Try.prog.godebug = none := by kernel_rfl
theorem laid : laidOutB Try.prog = true := by kernel_rfl
theorem rowed : mapsRowed Try.prog = true := by kernel_rfl
theorem sized : ((List.range Try.prog.types.size).all fun t => match Try.prog.underlying t with | some (.slice e) => decide (0 < Try.prog.cellsOf e) | _ => true) = true := by kernel_rfl
set_option maxRecDepth 100000 in
theorem lifted (os : Os) (started : os.Started) (H : Type) (enc : TypeId × Value → H) :
    ReturnsInHanded {} Try.checked os 13 .any (Rows.fnExactAlphaEqualSpec.pre6 enc Try.prog Try.f13 Rows.fnExactAlphaEqualRow.domain false) (Rows.fnExactAlphaEqualSpec.post enc Try.prog Try.f13 false true false false) := by
  refine returnsInHanded_of_change (C := Try.checked) own started (by kernel_rfl) Try.func13
    (ChangeSpec.witness6 (enc := enc) (C := Try.checked) false ⟨#[], #[.agg #[.int .i64 0, .int .i64 0, .slice none 0 0, .int .i64 0, .int .i64 0, .string ⟨#[]⟩, .slice none 0 0, .slice none 0 0], .agg #[.int .i64 0, .int .i64 0, .slice none 0 0, .int .i64 0, .int .i64 0, .string ⟨#[]⟩, .slice none 0 0, .slice none 0 0]], []⟩ 12 (by kernel_rfl) (by kernel_rfl) (by kernel_rfl) (by kernel_rfl)) ?_
  intro W base args ds gs before hval0 hW hcnd _
  have hval : ∀ (j : Nat) t v, Try.f13.params[j]? = some t → args[j]? = some v → Value.okWide Try.prog W .any base t v := hval0
  have hW' := hW
  obtain ⟨p, q, hA0, hV, rfl, hfz, hnd⟩ := hW
  obtain ⟨rfl, rfl⟩ := trodVars_none hV
  have hA : DataW.TrodAll enc Try.prog W 0 (fun _ => true) true Try.f13.params.toList args.toList ds p := hA0
  rw [Try.params13] at hA hval
  have hA2 := hA
  clear hA0 hval0
  obtain ⟨v0, vs0, d0, ds0, p0, q0, hargs0, rfl, rfl, h0, r0⟩ := trodAll_cons hA
  obtain ⟨v1, vs1, d1, ds1, p1, q1, hargs1, rfl, rfl, h1, r1⟩ := trodAll_cons r0
  obtain ⟨rfl, rfl, rfl⟩ := trodAll_nil r1
  obtain rfl : args = #[v0, v1] := by cases args; simp_all
  obtain ⟨a0, c0⟩ := (let ⟨fuel, hf⟩ := h0; rd_core fuel _ _ hf)
  have s0 : SVRel W (allI W) (obOf []) (coreA a0) v0 := agg_rel (let ⟨cs, h, _⟩ := okWide_struct Try.underlying90 (hval 0 90 v0 rfl rfl); ⟨cs, h⟩) c0
  obtain ⟨a1, c1⟩ := (let ⟨fuel, hf⟩ := h1; rd_core fuel _ _ hf)
  have s1 : SVRel W (allI W) (obOf []) (coreA a1) v1 := agg_rel (let ⟨cs, h, _⟩ := okWide_struct Try.underlying90 (hval 1 90 v1 rfl rfl); ⟨cs, h⟩) c1
  refine (CallOK.kept (w := W) (vals := #[v0, v1]) (c_LAlpha a0 a1) ⟨s0, s1, trivial⟩).mono fun e W' ⟨he, hg, _⟩ => ?_
  subst he
  exact ⟨_, rfl, post_of_kept (pv := []) hW' (fun _ _ _ => (trodAll_cons_mk (shut_bool Try.underlying4 _) trodAll_mk0))
    (fun sp hsp => trodAll_kept laid rowed sized hg (by decide +kernel) hA2 fun y hy => hsp y (by simpa using hy)) (fun _ _ => rfl) rfl
    hg (ok_one (by kernel_rfl) rfl (okWide_bool_mk Try.underlying4 _))⟩
set_option maxRecDepth 100000 in
set_option maxHeartbeats 0 in
theorem facts : joinedFacts Try.pinned.checked.prog 13 Try.f13 Rows.fnExactAlphaEqualSpec Rows.fnExactAlphaEqualRow = true := by
  delta joinedFacts
  with_reducible repeat' apply and_i
  all_goals (first | with_reducible exact enters | (rw [makes]; kernel_rfl) | (rw [lifts]; kernel_rfl) | decide +kernel)
theorem over : Rows.fnExactAlphaEqualRow.holds Try.pinned (OpenSpec.ofChange Rows.fnExactAlphaEqualSpec) :=
  OpenClaim.holds_of_wide 13 Try.f13 rfl rfl rfl rfl rfl rfl rfl ⟨rfl, rfl, rfl, rfl, rfl⟩ rfl rfl rfl rfl rfl (by kernel_rfl) Try.func13 facts
    (of_decide_eq_true (by kernel_rfl)) (by unfold Func.isWrapper; first | (rw [if_pos (by decide +kernel)]; kernel_rfl) | (rw [if_neg (by decide +kernel)]; exact ⟨rfl, rfl⟩))
    (fun os started H enc _ => lifted os started H enc)
theorem proved : Rows.FnExactAlphaEqualSaid :=
  over
end Go.Proofs.Ytehpjofddjmbpaa.fnExactAlphaEqual
end
