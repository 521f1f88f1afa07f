/- what a pattern has matched, put into the pattern, is the form No condition. -/
import Derived.Test.YtclpofblehlojaaGreatReb3
set_option linter.unusedVariables false
set_option linter.unusedSimpArgs false
section
namespace Go.Proofs.YtclpofblehlojaaGreat
open Go Ab
mutual
/-- the greatest form or number of rounds in a capture -/
def mxP : YC -> Nat
 | ⟨_, _, f, e⟩ => max (wY f) (max e.length (Yoy e))
def Yoy : List YC -> Nat
 | [] => 0
 | x :: r => max (mxP x) (Yoy r)
end
theorem Yuz (x : YC) : mxP x = max (wY x.form) (max x.each.length (Yoy x.each)) := by cases x; simp only [mxP]
theorem Y134 : ∀ {l : List YC} {x : YC}, x ∈ l -> mxP x <= Yoy l
 | y :: r, x, h => by
  rw [Yoy]
  rcases List.mem_cons.1 h with rfl | h
  ·omega
  ·have := Y134 h; omega
theorem Y14w {m : Nat} : ∀ {l : List YC}, (∀ x ∈ l, mxP x <= m) -> Yoy l <= m
 | [], _ => by simp [Yoy]
 | x :: r, h => by
  have h1 := h x List.mem_cons_self
  have h2 := Y14w fun y hy => h y (List.mem_cons_of_mem _ hy)
  rw [Yoy]; omega
def cnB (C : List YC) (x : YS) : Bool := Yu1 C (Ydu x []) (Ydu x []).length && decide (0 <= cnN C (Ydu x []) (Ydu x []).length)
abbrev bN (C : List YC) (x : YS) : Nat := (cnN C (Ydu x []) (Ydu x []).length).toNat
abbrev Yms (C : List YC) (x : YS) (j : Nat) : List YC := Ys7 C j (Ydu x []) (Ydu x []).length
def bI (C : List YC) (x : YS) (j : Nat) (q : Int) (O : List YS) : List YS × Bool × Int := itr (fun j q => bld x (Yms C x j) q) j q O
def bJ (C : List YC) (x : YS) (j : Nat) (q : Int) (O : List YS) : List YS × Bool × Int := if cnB C x = true then bI C x j q O else (O, false, q)
def bR (C : List YC) (x : YS) (q : Int) (O : List YS) : List YS × Bool × Int := bJ C x (bN C x) q O
theorem Yuw (t : YS) (C : List YC) (q : Int) : bld t C q = if q - 1 < 0 then (zY, false, q - 1) else if t.kind = 1 then
      (if Yd5 t = true ∨ fnd C t < 0 then (t, !Yd5 t, q - 1)
       else if (Ydw C t).depth ≠ 0 then (zY, false, q)
       else if (sizeY (Ydw C t).form : Int) <= q then ((Ydw C t).form, true, max (q - sizeY (Ydw C t).form) (-1))
       else (zY, false, max (q - sizeY (Ydw C t).form) (-1)))
    else if (Yfn t.items C (q - 1) []).2.1 = true then (⟨t.kind, t.number, t.text, [], (Yfn t.items C (q - 1) []).1⟩, true, (Yfn t.items C (q - 1) []).2.2) else (zY, false, (Yfn t.items C (q - 1) []).2.2) := by
  cases t; rw [bld]
theorem Yit (C : List YC) (q : Int) (O : List YS) : Yfn [] C q O = (O, true, q) := by rw [Yfn]
theorem Ytr (x : YS) (C : List YC) (q : Int) (O : List YS) : Yfn [x] C q O = if (bld x C q).2.1 = true then Yfn [] C (bld x C q).2.2 (O ++ [(bld x C q).1]) else (O, false, (bld x C q).2.2) := by
 rw [Yit, Yfn]
theorem Ynb (x y : YS) (r : List YS) (C : List YC) (q : Int) (O : List YS) : Yfn (x :: y :: r) C q O = if Yd5 y = true then (if (bR C x q O).2.1 = true then Yfn r C (bR C x q O).2.2 (bR C x q O).1 else bR C x q O)
  else if (bld x C q).2.1 = true then Yfn (y :: r) C (bld x C q).2.2 (O ++ [(bld x C q).1]) else (O, false, (bld x C q).2.2) := by
 rw [Yfn]
 split
 ·unfold bR bJ cnB
  split
  ·rfl
  ·rfl
 ·rfl
theorem Y129 {f : Nat -> Int -> YS × Bool × Int} (hf : ∀ j q, 0 <= q -> (f j q).2.1 = true -> 0 <= (f j q).2.2 /\ (f j q).2.2 + 1 <= q) : ∀ (j : Nat) (q : Int) (O : List YS), 0 <= q -> (itr f j q O).2.1 = true -> 0 <= (itr f j q O).2.2 /\ ((itr f j q O).1.length : Int) + (itr f j q O).2.2 <= O.length + q
 | 0, q, O, h0, _ => by simp only [itr]; omega
 | j + 1, q, O, h0, h => by
  have ih := Y129 hf j q O h0
  simp only [itr] at h ⊢
  by_cases e : (itr f j q O).2.1 = true
  ·rw [if_pos e] at h ⊢
   have h1 := ih e
   have h2 := hf j _ h1.1 h
   simp only [List.length_append, List.length_singleton]; omega
  ·rw [if_neg e] at h; exact absurd h e
theorem Ykm (f : Nat -> Int -> YS × Bool × Int) (j : Nat) (q : Int) (O : List YS) (h : (itr f j q O).2.1 = true) : itr f (j + 1) q O = ((itr f j q O).1 ++ [(f j (itr f j q O).2.2).1], (f j (itr f j q O).2.2).2.1, (f j (itr f j q O).2.2).2.2) := by
 rw [itr, if_pos h]
theorem Y109 (f : Nat -> Int -> YS × Bool × Int) (j : Nat) (q : Int) (O : List YS) (h : (itr f j q O).2.1 = false) : ∀ n, j <= n -> itr f n q O = itr f j q O
  | 0, hn => by obtain rfl : j = 0 := by omega
                rfl
  | n + 1, hn => by
    by_cases e : j = n + 1
    · rw [e]
    · have := Y109 f j q O h n (by omega)
      rw [itr, this, h]; rfl
theorem Yz3 {C : List YC} {I : List YS} : ∀ (m j : Nat), j < m -> Yu1 C I m = true -> rep C (I.getD j default) = true -> ((Ydw C (I.getD j default)).each.length : Int) = cnN C I m
 | 0, j, h, _, _ => by omega
 | m + 1, j, h, ht, hr => by
  simp only [Yu1, Bool.and_eq_true, Bool.or_eq_true, Bool.not_eq_true', decide_eq_true_eq] at ht
  simp only [cnN]
  by_cases e : j = m
  ·subst e; rw [if_pos hr]
  ·have ih := Yz3 m j (by omega) ht.1 hr
   split
   ·rename_i h2
    rcases ht.2 with (h3 | h3) | h3
    ·rw [h2] at h3; cases h3
    ·omega
    ·omega
   ·exact ih
theorem Y1jb {C : List YC} (hC : ∀ z ∈ C, mxP z <= 1000000000) (i a : Nat) : mxP ((C.getD i default).each.getD a default) <= 1000000000 := by
 have h0 : mxP (default : YC) = 0 := rfl
 rcases Nat.lt_or_ge a (C.getD i default).each.length with h1 | h1
 ·have h2 := Y134 (Yd6 h1)
  have h3 := Yuz (C.getD i default)
  rcases Nat.lt_or_ge i C.length with h4 | h4
  ·have := hC _ (Yd6 h4); omega
  ·have e : C.getD i default = default := by simp [h4]
   have e2 : (default : YC).each.length = 0 := rfl
   rw [e, e2] at h1; omega
 ·have e : (C.getD i default).each.getD a default = default := by rw [List.getD_eq_getElem?_getD, List.getElem?_eq_none h1]; rfl
  rw [e, h0]; omega
theorem Y1fe {C : List YC} (hC : ∀ z ∈ C, mxP z <= 1000000000) {t : YS} (h : 0 <= fnd C t) : wY (Ydw C t).form <= 1000000000 := by
 have h1 := Yn8 C t
 have h2 := hC (Ydw C t) (Yd6 (by omega))
 have h3 := Yuz (Ydw C t)
 omega
def lnI (C : List YC) (i : Int) : Int := ((C.getD i.toNat default).each.length : Int)
abbrev rpX (C : List YC) (x : YS) : List Int := rpi C x []
def rqA (C : List YC) (I : List Int) (n : Int) : Bool := I.all fun i => decide (lnI C i = n)
def rqB (C : List YC) (x : YS) : Bool := !decide ((rpX C x).length = 0) && rqA C (rpX C x) (lnI C ((rpX C x).getD 0 default))
abbrev rqN (C : List YC) (x : YS) : Nat := (C.getD ((rpX C x).getD 0 default).toNat default).each.length
def Yi2 (C : List YC) (a : Nat) (I : List Int) : List YC := I.foldl (fun O i => O.set i.toNat ((C.getD i.toNat default).each.getD a default)) C
abbrev stq (C : List YC) (x : YS) (a : Nat) : List YC := Yi2 C a (rpX C x)
theorem Y10a (C : List YC) (a : Nat) (I : List Int) : (Yi2 C a I).length = C.length := by
 have : ∀ (I : List Int) (O : List YC), (I.foldl (fun O i => O.set i.toNat ((C.getD i.toNat default).each.getD a default)) O).length = O.length := by
  intro I
  induction I with
  | nil => intro O; rfl
  | cons x r ih => intro O; rw [List.foldl_cons, ih, List.length_set]
 exact this I C
theorem Y1aj {C : List YC} {a : Nat} {I : List Int} {k : Nat} (h : k < I.length) : Yi2 C a (I.take (k + 1)) = (Yi2 C a (I.take k)).set (I.getD k default).toNat ((C.getD (I.getD k default).toNat default).each.getD a default) := by
 unfold Yi2; rw [Ylv _ _ h]
mutual
/-- what the program builds of a template: the form, whether all went well, the nodes that are left -/
def bli : YS -> List YC -> Int -> YS × Bool × Int
  | ⟨k, n, x, s, l⟩, C, m => if k = 1 /\ 0 <= fnd C ⟨k, n, x, s, l⟩ then
      (if (Ydw C ⟨k, n, x, s, l⟩).depth ≠ 0 then (zY, false, m)
       else if Ydk (Ydw C ⟨k, n, x, s, l⟩).form = true then ((Ydw C ⟨k, n, x, s, l⟩).form, decide (0 <= m - sizeY (Ydw C ⟨k, n, x, s, l⟩).form), m - sizeY (Ydw C ⟨k, n, x, s, l⟩).form)
       else (zY, false, m))
    else if m - 1 < 0 then (zY, false, m - 1)
    else if (Ydy l C (m - 1) []).2.1 = true then (⟨k, n, x, s, (Ydy l C (m - 1) []).1⟩, true, (Ydy l C (m - 1) []).2.2) else (zY, false, (Ydy l C (m - 1) []).2.2)
def Ydy : List YS -> List YC -> Int -> List YS -> List YS × Bool × Int
  | [], _, m, O => (O, true, m)
  | [x], C, m, O => if (bli x C m).2.1 = true then (O ++ [(bli x C m).1], true, (bli x C m).2.2) else (O, false, (bli x C m).2.2)
  | x :: y :: r, C, m, O => if Yd5 y = true then
      (if rqB C x = true then
        (if (itr (fun j m => bli x (stq C x j) m) (rqN C x) m O).2.1 = true then
          Ydy r C (itr (fun j m => bli x (stq C x j) m) (rqN C x) m O).2.2 (itr (fun j m => bli x (stq C x j) m) (rqN C x) m O).1
         else itr (fun j m => bli x (stq C x j) m) (rqN C x) m O)
       else (O, false, m))
    else if (bli x C m).2.1 = true then Ydy (y :: r) C (bli x C m).2.2 (O ++ [(bli x C m).1]) else (O, false, (bli x C m).2.2)
end
def iI (C : List YC) (x : YS) (j : Nat) (q : Int) (O : List YS) : List YS × Bool × Int := itr (fun j q => bli x (stq C x j) q) j q O
def iR (C : List YC) (x : YS) (q : Int) (O : List YS) : List YS × Bool × Int := if rqB C x = true then iI C x (rqN C x) q O else (O, false, q)
theorem Yk3 (t : YS) (C : List YC) (m : Int) : bli t C m = if t.kind = 1 /\ 0 <= fnd C t then
      (if (Ydw C t).depth ≠ 0 then (zY, false, m)
       else if Ydk (Ydw C t).form = true then ((Ydw C t).form, decide (0 <= m - sizeY (Ydw C t).form), m - sizeY (Ydw C t).form)
       else (zY, false, m))
    else if m - 1 < 0 then (zY, false, m - 1)
    else if (Ydy t.items C (m - 1) []).2.1 = true then (⟨t.kind, t.number, t.text, t.scopes, (Ydy t.items C (m - 1) []).1⟩, true, (Ydy t.items C (m - 1) []).2.2) else (zY, false, (Ydy t.items C (m - 1) []).2.2) := by
  cases t; rw [bli]
theorem Ykv (C : List YC) (q : Int) (O : List YS) : Ydy [] C q O = (O, true, q) := by rw [Ydy]
theorem Ytq (x : YS) (C : List YC) (q : Int) (O : List YS) : Ydy [x] C q O = if (bli x C q).2.1 = true then Ydy [] C (bli x C q).2.2 (O ++ [(bli x C q).1]) else (O, false, (bli x C q).2.2) := by
 rw [Ykv, Ydy]
theorem Yne (x y : YS) (r : List YS) (C : List YC) (q : Int) (O : List YS) : Ydy (x :: y :: r) C q O = if Yd5 y = true then (if (iR C x q O).2.1 = true then Ydy r C (iR C x q O).2.2 (iR C x q O).1 else iR C x q O)
  else if (bli x C q).2.1 = true then Ydy (y :: r) C (bli x C q).2.2 (O ++ [(bli x C q).1]) else (O, false, (bli x C q).2.2) := by
 rw [Ydy]
 split
 ·unfold iR
  split
  ·rfl
  ·rfl
 ·rfl
theorem Y1bt {l : List YS} {k : Nat} {C : List YC} {q : Int} {O : List YS} (h : l.length <= k) : Ydy (l.drop k) C q O = (O, true, q) := by
 rw [List.drop_eq_nil_of_le h, Ykv]
theorem Yui {l : List YS} {k : Nat} {C : List YC} {q : Int} {O : List YS} (h : k < l.length) (hd : l.length <= k + 1 ∨ Yd5 (l.getD (k + 1) default) = false) :
  Ydy (l.drop k) C q O = if (bli (l.getD k default) C q).2.1 = true then Ydy (l.drop (k + 1)) C (bli (l.getD k default) C q).2.2 (O ++ [(bli (l.getD k default) C q).1]) else (O, false, (bli (l.getD k default) C q).2.2) := by
 rw [Yfj h]
 rcases Nat.lt_or_ge (k + 1) l.length with h1 | h1
 ·rw [Yfj h1, Yne, if_neg (by rcases hd with h2 | h2 <;> first | (exfalso; omega) | (rw [h2]; decide))]
 ·rw [List.drop_eq_nil_of_le h1, Ytq]
theorem Ynl {l : List YS} {k : Nat} {C : List YC} {q : Int} {O : List YS} (h : k + 1 < l.length) (hd : Yd5 (l.getD (k + 1) default) = true) :
  Ydy (l.drop k) C q O = if (iR C (l.getD k default) q O).2.1 = true then Ydy (l.drop (k + 1 + 1)) C (iR C (l.getD k default) q O).2.2 (iR C (l.getD k default) q O).1 else iR C (l.getD k default) q O := by
 rw [Yfj (by omega : k < l.length), Yfj h, Yne, if_pos hd]
theorem Ys0 : ∀ (l : List YS), (∀ x ∈ l, ∀ C q, 0 <= q -> (bli x C q).2.1 = true -> 0 <= (bli x C q).2.2 /\ (bli x C q).2.2 + 1 <= q) -> ∀ C q O, 0 <= q -> (Ydy l C q O).2.1 = true -> 0 <= (Ydy l C q O).2.2 /\ ((Ydy l C q O).1.length : Int) + (Ydy l C q O).2.2 <= O.length + q
 | [], _, C, q, O, h0, _ => by rw [Ykv]; simp only; omega
 | [x], hx, C, q, O, h0, h => by
  rw [Ytq] at h ⊢
  by_cases e : (bli x C q).2.1 = true
  ·rw [if_pos e] at h ⊢
   have h1 := hx x List.mem_cons_self C q h0 e
   have h2 := Ys0 [] (fun _ h => by cases h) C _ (O ++ [(bli x C q).1]) h1.1 h
   simp only [List.length_append, List.length_singleton] at h2; omega
  ·rw [if_neg e] at h; cases h
 | x :: y :: r, hx, C, q, O, h0, h => by
  rw [Yne] at h ⊢
  by_cases d : Yd5 y = true
  ·rw [if_pos d] at h ⊢
   by_cases e : (iR C x q O).2.1 = true
   ·rw [if_pos e] at h ⊢
    have h1 : 0 <= (iR C x q O).2.2 /\ ((iR C x q O).1.length : Int) + (iR C x q O).2.2 <= O.length + q := by
     unfold iR at e ⊢
     by_cases c : rqB C x = true
     ·rw [if_pos c] at e ⊢
      exact Y129 (fun j q => hx x List.mem_cons_self _ q) _ q O h0 e
     ·rw [if_neg c] at e; cases e
    have h2 := Ys0 r (fun z hz => hx z (List.mem_cons_of_mem _ (List.mem_cons_of_mem _ hz))) C _ (iR C x q O).1 h1.1 h
    omega
   ·rw [if_neg e] at h; exact absurd h e
  ·rw [if_neg d] at h ⊢
   by_cases e : (bli x C q).2.1 = true
   ·rw [if_pos e] at h ⊢
    have h1 := hx x List.mem_cons_self C q h0 e
    have h2 := Ys0 (y :: r) (fun z hz => hx z (List.mem_cons_of_mem _ hz)) C _ (O ++ [(bli x C q).1]) h1.1 h
    simp only [List.length_append, List.length_singleton] at h2; omega
   ·rw [if_neg e] at h; cases h
theorem Yrq : ∀ (t : YS) (C : List YC) (q : Int), 0 <= q -> (bli t C q).2.1 = true -> 0 <= (bli t C q).2.2 /\ (bli t C q).2.2 + 1 <= q := by
 refine YS.ind fun t ih C q h0 h => ?_
 have h3 := Ye6 (Ydw C t).form
 rw [Yk3] at h ⊢
 by_cases c2 : t.kind = 1 /\ 0 <= fnd C t
 ·rw [if_pos c2] at h ⊢
  by_cases c4 : (Ydw C t).depth ≠ 0
  ·rw [if_pos c4] at h; cases h
  ·rw [if_neg c4] at h ⊢
   by_cases c5 : Ydk (Ydw C t).form = true
   ·rw [if_pos c5] at h ⊢
    simp only [decide_eq_true_eq] at h ⊢
    omega
   ·rw [if_neg c5] at h; cases h
 ·rw [if_neg c2] at h ⊢
  by_cases c1 : q - 1 < 0
  ·rw [if_pos c1] at h; cases h
  rw [if_neg c1] at h ⊢
  by_cases c6 : (Ydy t.items C (q - 1) []).2.1 = true
  ·rw [if_pos c6]
   have := Ys0 t.items ih C (q - 1) [] (by omega) c6
   simp only [List.length_nil] at this ⊢; omega
  ·rw [if_neg c6] at h; cases h
theorem Y1ec (C : List YC) (x : YS) (j : Nat) (q : Int) (O : List YS) (h0 : 0 <= q) (h : (iI C x j q O).2.1 = true) : 0 <= (iI C x j q O).2.2 /\ ((iI C x j q O).1.length : Int) + (iI C x j q O).2.2 <= O.length + q :=
 Y129 (fun j q => Yrq x _ q) j q O h0 h
theorem Y147 (C : List YC) (x : YS) (j : Nat) (q : Int) (O : List YS) (h : (iI C x j q O).2.1 = true) : iI C x (j + 1) q O = ((iI C x j q O).1 ++ [(bli x (stq C x j) (iI C x j q O).2.2).1], (bli x (stq C x j) (iI C x j q O).2.2).2.1, (bli x (stq C x j) (iI C x j q O).2.2).2.2) := Ykm _ j q O h
theorem Y1fl (C : List YC) (x : YS) (j n : Nat) (q : Int) (O : List YS) (h : (iI C x j q O).2.1 = false) (hn : j <= n) : iI C x n q O = iI C x j q O := Y109 _ j q O h n hn
theorem Y1i2 {C : List YC} (hC : ∀ z ∈ C, mxP z <= 1000000000) (a : Nat) (I : List Int) : ∀ z ∈ Yi2 C a I, mxP z <= 1000000000 := by
 have : ∀ (I : List Int) (O : List YC), (∀ z ∈ O, mxP z <= 1000000000) -> ∀ z ∈ I.foldl (fun O i => O.set i.toNat ((C.getD i.toNat default).each.getD a default)) O, mxP z <= 1000000000 := by
  intro I
  induction I with
  | nil => intro O h; exact h
  | cons x r ih =>
   intro O h
   rw [List.foldl_cons]
   refine ih _ fun z hz => ?_
   rcases List.mem_or_eq_of_mem_set hz with h2 | h2
   ·exact h z h2
   ·rw [h2]; exact Y1jb hC _ _
 exact this I C hC
mutual
def nmZ : YS -> List YS
 | ⟨k, n, t, s, l⟩ => (if k = 1 then [⟨k, n, t, s, l⟩] else []) ++ Y11h l
def Y11h : List YS -> List YS
 | [] => []
 | x :: r => nmZ x ++ Y11h r
end
theorem Y14f : ∀ l, Y11h l = l.flatMap nmZ
 | [] => by simp [Y11h]
 | x :: r => by rw [Y11h, Y14f r]; simp
theorem Ygk (x : YS) : nmZ x = (if x.kind = 1 then [x] else []) ++ x.items.flatMap nmZ := by cases x; simp only [nmZ, Y14f]
def Ykb (o : List YS) (y : YS) : List YS := if Ydo o y = false then o ++ [y] else o
def Yrs (C : List YC) (o : List Int) (y : YS) : List Int := if rep C y = true /\ fnd C y ∉ o then o ++ [fnd C y] else o
theorem Yor {α β γ : Type} (f : γ -> α -> γ) (g : γ -> β -> γ) (h : β -> List α) : ∀ (l : List β), (∀ x ∈ l, ∀ o, g o x = (h x).foldl f o) -> ∀ o, l.foldl g o = (l.flatMap h).foldl f o
 | [], _, o => rfl
 | x :: r, hx, o => by
  rw [List.foldl_cons, List.flatMap_cons, List.foldl_append, hx x List.mem_cons_self, Yor f g h r fun y hy => hx y (List.mem_cons_of_mem _ hy)]
theorem Ytd : ∀ (x : YS) (o : List YS), Ydu x o = (nmZ x).foldl Ykb o := by
 refine YS.ind fun x ih o => ?_
 rw [Yw9, Ygk, List.foldl_append, Yor Ykb _ nmZ x.items ih]
 congr 1
 unfold Ylq
 by_cases h : x.kind = 1
 ·rw [if_pos h]; simp [Ykb, h]
 ·rw [if_neg h]; simp [h]
theorem Y1gi (C : List YC) : ∀ (x : YS) (o : List Int), rpi C x o = (nmZ x).foldl (Yrs C) o := by
 refine YS.ind fun x ih o => ?_
 rw [Y108, Ygk, List.foldl_append, Yor (Yrs C) _ nmZ x.items ih]
 congr 1
 unfold Ylo
 by_cases h : x.kind = 1
 ·rw [if_pos h]; simp [Yrs, h]
 ·rw [if_neg h]; simp [h]
theorem Ypg : ∀ (x : YS), ∀ y ∈ nmZ x, y.kind = 1 := by
 refine YS.ind fun x ih y hy => ?_
 rw [Ygk, List.mem_append, List.mem_flatMap] at hy
 rcases hy with hy | ⟨z, hz, hy⟩
 ·split at hy
  ·rename_i h; rw [List.mem_singleton] at hy; subst hy; exact h
  ·cases hy
 ·exact ih z hz y hy
theorem Y12d {C : List YC} {a b : YS} (h1 : a.text = b.text) (h2 : a.scopes = b.scopes) (ha : a.kind = 1) (hb : b.kind = 1) : fnd C a = fnd C b := by
 have e : Yg0 a = Yg0 b := by funext x; simp only [Yg0, h1, h2]
 simp only [fnd, Yfz, Yd5, e, h1, ha, hb]
theorem Y1c4 {o : List YS} {y : YS} : Ydo o y = true ↔ ∃ z ∈ o, z.text = y.text /\ z.scopes = y.scopes := by
 simp only [Ydo, List.any_eq_true, Bool.and_eq_true, decide_eq_true_eq]
theorem Yr3 (L : List YS) : ∀ (o : List YS), (∀ z ∈ L.foldl Ykb o, z ∈ o ∨ z ∈ L) /\ (∀ y, y ∈ o ∨ y ∈ L -> ∃ z ∈ L.foldl Ykb o, z.text = y.text /\ z.scopes = y.scopes) := by
 induction L with
 | nil => intro o; exact ⟨fun z hz => .inl hz, fun y hy => ⟨y, by simpa using hy, rfl, rfl⟩⟩
 | cons x r ih =>
  intro o
  rw [List.foldl_cons]
  obtain ⟨h1, h2⟩ := ih (Ykb o x)
  constructor
  ·intro z hz
   rcases h1 z hz with h | h
   ·unfold Ykb at h
    split at h
    ·rcases List.mem_append.1 h with h | h
     ·exact .inl h
     ·rw [List.mem_singleton.1 h]; exact .inr List.mem_cons_self
    ·exact .inl h
   ·exact .inr (List.mem_cons_of_mem _ h)
  ·intro y hy
   have h3 : ∃ z ∈ Ykb o x, z.text = x.text /\ z.scopes = x.scopes := by
    unfold Ykb
    by_cases e : Ydo o x = false
    ·rw [if_pos e]; exact ⟨x, by simp, rfl, rfl⟩
    ·rw [if_neg e]; exact Y1c4.1 (by simpa using e)
   have h4 : ∀ z ∈ o, z ∈ Ykb o x := fun z hz => by unfold Ykb; split <;> simp [hz]
   rcases hy with hy | hy
   ·exact h2 y (.inl (h4 y hy))
   ·rcases List.mem_cons.1 hy with rfl | hy
    ·obtain ⟨z, hz, e1, e2⟩ := h3
     obtain ⟨w, hw, e3, e4⟩ := h2 z (.inl hz)
     exact ⟨w, hw, e3.trans e1, e4.trans e2⟩
    ·exact h2 y (.inr hy)
theorem Y1a6 (C : List YC) (L : List YS) : ∀ (o : List Int) (i : Int), i ∈ L.foldl (Yrs C) o ↔ (i ∈ o ∨ ∃ y ∈ L, rep C y = true /\ fnd C y = i) := by
 induction L with
 | nil => intro o i; simp
 | cons x r ih =>
  intro o i
  rw [List.foldl_cons, ih]
  have e : i ∈ Yrs C o x ↔ (i ∈ o ∨ (rep C x = true /\ fnd C x = i)) := by
   unfold Yrs
   by_cases h : rep C x = true /\ fnd C x ∉ o
   ·rw [if_pos h, List.mem_append, List.mem_singleton]
    constructor
    ·rintro (a | rfl)
     ·exact .inl a
     ·exact .inr ⟨h.1, rfl⟩
    ·rintro (a | ⟨_, rfl⟩)
     ·exact .inl a
     ·exact .inr rfl
   ·rw [if_neg h]
    constructor
    ·exact .inl
    ·rintro (a | ⟨a, rfl⟩)
     ·exact a
     ·exact Decidable.byContradiction fun n => h ⟨a, n⟩
  rw [e]
  simp only [List.mem_cons, exists_eq_or_imp, or_assoc]
theorem Ykf {C : List YC} {x : YS} {i : Int} : i ∈ rpX C x ↔ ∃ y ∈ Ydu x [], rep C y = true /\ fnd C y = i := by
 unfold rpX
 rw [Y1gi, Y1a6, Ytd]
 have h := Yr3 (nmZ x) []
 constructor
 ·rintro (a | ⟨y, hy, h1, h2⟩)
  ·cases a
  ·obtain ⟨z, hz, e1, e2⟩ := h.2 y (.inr hy)
   have hz' : z ∈ nmZ x := by rcases h.1 z hz with a | a; cases a; exact a
   have e := @Y12d C z y e1 e2 (Ypg x z hz') (Ypg x y hy)
   exact ⟨z, hz, by simpa [rep, Ydw, e] using h1, e.trans h2⟩
 ·rintro ⟨y, hy, h1, h2⟩
  refine .inr ⟨y, ?_, h1, h2⟩
  rcases h.1 y hy with a | a
  ·cases a
  ·exact a
theorem Yxf {C : List YC} {y : YS} (h : rep C y = true) : lnI C (fnd C y) = ((Ydw C y).each.length : Int) /\ 0 <= fnd C y := by
 simp only [rep, Bool.and_eq_true, decide_eq_true_eq] at h
 exact ⟨rfl, h.1⟩
theorem Y177 {C : List YC} {I : List YS} {n : Int} (h0 : 0 <= n) : ∀ m, (∀ j, j < m -> rep C (I.getD j default) = true -> ((Ydw C (I.getD j default)).each.length : Int) = n) -> Yu1 C I m = true /\ (cnN C I m = n ∨ cnN C I m = -1)
 | 0, _ => ⟨rfl, .inr rfl⟩
 | m + 1, h => by
  obtain ⟨h1, h2⟩ := Y177 h0 m fun j hj => h j (by omega)
  have h3 := h m (by omega)
  simp only [Yu1, cnN, Bool.and_eq_true, Bool.or_eq_true, Bool.not_eq_true', decide_eq_true_eq]
  by_cases e : rep C (I.getD m default) = true
  ·rw [if_pos e]
   have := h3 e
   refine ⟨⟨h1, ?_⟩, .inl this⟩
   rcases h2 with h2 | h2
   ·exact .inr (by omega)
   ·exact .inl (.inr (by omega))
  ·rw [if_neg e]
   exact ⟨⟨h1, .inl (.inl (by simpa using e))⟩, h2⟩
theorem Y153 {C : List YC} {I : List YS} : ∀ m, m <= I.length -> 0 <= cnN C I m -> ∃ y ∈ I, rep C y = true
 | 0, _, h => by simp only [cnN] at h; omega
 | m + 1, hm, h => by
  simp only [cnN] at h
  split at h
  ·rename_i e; exact ⟨_, Yd6 (by omega), e⟩
  ·exact Y153 m (by omega) h
theorem Y1l8 (C : List YC) (x : YS) : rqB C x = cnB C x /\ (cnB C x = true -> rqN C x = bN C x) := by
 have hall : cnB C x = true -> ∀ i ∈ rpX C x, lnI C i = cnN C (Ydu x []) (Ydu x []).length := by
  intro h i hi
  simp only [cnB, Bool.and_eq_true, decide_eq_true_eq] at h
  obtain ⟨y, hy, h1, rfl⟩ := Ykf.1 hi
  rw [(Yxf h1).1]
  obtain ⟨j, hj, rfl⟩ := List.getElem_of_mem hy
  have e : (Ydu x [])[j] = (Ydu x []).getD j default := by simp [hj]
  rw [e] at h1 ⊢
  exact Yz3 _ j hj h.1 h1
 have hne : cnB C x = true -> 0 < (rpX C x).length := by
  intro h
  simp only [cnB, Bool.and_eq_true, decide_eq_true_eq] at h
  obtain ⟨y, hy, h1⟩ := Y153 _ (Nat.le_refl _) h.2
  exact List.length_pos_of_mem (Ykf.2 ⟨y, hy, h1, rfl⟩)
 refine ⟨?_, fun h => ?_⟩
 ·rw [Bool.eq_iff_iff]
  constructor
  ·intro h
   simp only [rqB, rqA, Bool.and_eq_true, Bool.not_eq_true', decide_eq_false_iff_not, List.all_eq_true, decide_eq_true_eq] at h
   have hl : 0 < (rpX C x).length := by omega
   have h0 : 0 <= lnI C ((rpX C x).getD 0 default) := by simp only [lnI]; omega
   have h1 := @Y177 C (Ydu x []) _ h0 (Ydu x []).length fun j hj hr => by
    rw [<- (Yxf hr).1]
    exact h.2 _ (Ykf.2 ⟨_, Yd6 hj, hr, rfl⟩)
   obtain ⟨y, hy, hr, _⟩ := Ykf.1 (Yd6 hl)
   obtain ⟨j, hj, rfl⟩ := List.getElem_of_mem hy
   have e : (Ydu x [])[j] = (Ydu x []).getD j default := by simp [hj]
   rw [e] at hr
   have := Yz3 _ j hj h1.1 hr
   simp only [cnB, Bool.and_eq_true, decide_eq_true_eq]
   exact ⟨h1.1, by omega⟩
  ·intro h
   have h1 := hall h
   have h2 := hne h
   simp only [rqB, rqA, Bool.and_eq_true, Bool.not_eq_true', decide_eq_false_iff_not, List.all_eq_true, decide_eq_true_eq]
   exact ⟨by omega, fun i hi => by rw [h1 i hi, h1 _ (Yd6 h2)]⟩
 ·have h1 := hall h _ (Yd6 (hne h))
  simp only [lnI] at h1
  simp only [rqN, bN]; omega
theorem Ywm (C : List YC) (a p : Nat) : ∀ L, (Yt3 C a L)[p]? = if (∃ y ∈ L, rep C y = true /\ (fnd C y).toNat = p) /\ p < C.length then some ((C.getD p default).each.getD a default) else C[p]?
 | [] => by simp [Yt3]
 | x :: r => by
  have ih := Ywm C a p r
  have hl := Y12g C a r
  have er : (0 <= fnd C x /\ 0 < (C.getD (fnd C x).toNat default).depth) ↔ rep C x = true := by
   unfold rep; rw [Bool.and_eq_true, decide_eq_true_eq, decide_eq_true_eq]; exact Iff.rfl
  simp only [Yt3]
  by_cases e : rep C x = true
  ·rw [if_pos (er.2 e), List.getElem?_set, hl]
   by_cases e2 : (fnd C x).toNat = p
   ·rw [if_pos e2]
    by_cases e3 : p < C.length
    ·rw [if_pos (by omega), if_pos ⟨⟨x, List.mem_cons_self, e, e2⟩, e3⟩, e2]
    ·rw [if_neg (by omega), if_neg (fun h => e3 h.2)]
     rw [List.getElem?_eq_none (by omega)]
   ·rw [if_neg e2, ih]
    congr 1
    apply propext
    constructor
    ·rintro ⟨⟨y, hy, h⟩, h2⟩; exact ⟨⟨y, List.mem_cons_of_mem _ hy, h⟩, h2⟩
    ·rintro ⟨⟨y, hy, h⟩, h2⟩
     rcases List.mem_cons.1 hy with rfl | hy
     ·exact absurd h.2 e2
     ·exact ⟨⟨y, hy, h⟩, h2⟩
  ·rw [if_neg (fun h => e (er.1 h)), ih]
   congr 1
   apply propext
   constructor
   ·rintro ⟨⟨y, hy, h⟩, h2⟩; exact ⟨⟨y, List.mem_cons_of_mem _ hy, h⟩, h2⟩
   ·rintro ⟨⟨y, hy, h⟩, h2⟩
    rcases List.mem_cons.1 hy with rfl | hy
    ·exact absurd h.1 e
    ·exact ⟨⟨y, hy, h⟩, h2⟩
theorem Y1fb (C : List YC) (a p : Nat) (I : List Int) : (Yi2 C a I)[p]? = if (∃ i ∈ I, i.toNat = p) /\ p < C.length then some ((C.getD p default).each.getD a default) else C[p]? := by
 have : ∀ (I : List Int) (O : List YC), O.length = C.length -> (I.foldl (fun O i => O.set i.toNat ((C.getD i.toNat default).each.getD a default)) O)[p]? = if (∃ i ∈ I, i.toNat = p) /\ p < C.length then some ((C.getD p default).each.getD a default) else O[p]? := by
  intro I
  induction I with
  | nil => intro O _; simp
  | cons x r ih =>
   intro O hO
   rw [List.foldl_cons, ih _ (by rw [List.length_set]; exact hO), List.getElem?_set, hO]
   by_cases e3 : p < C.length
   ·by_cases e : ∃ i ∈ r, i.toNat = p
    ·obtain ⟨i, hi, h⟩ := e
     rw [if_pos ⟨⟨i, hi, h⟩, e3⟩, if_pos ⟨⟨i, List.mem_cons_of_mem _ hi, h⟩, e3⟩]
    ·rw [if_neg (fun h => e h.1)]
     by_cases e2 : x.toNat = p
     ·rw [if_pos e2, if_pos (by omega), if_pos ⟨⟨x, List.mem_cons_self, e2⟩, e3⟩, e2]
     ·rw [if_neg e2, if_neg]
      rintro ⟨⟨i, hi, h⟩, _⟩
      rcases List.mem_cons.1 hi with rfl | hi
      ·exact e2 h
      ·exact e ⟨i, hi, h⟩
   ·have n1 : ¬ ((∃ i ∈ r, i.toNat = p) /\ p < C.length) := fun h => e3 h.2
    have n2 : ¬ ((∃ i ∈ x :: r, i.toNat = p) /\ p < C.length) := fun h => e3 h.2
    rw [if_neg n1, if_neg n2]
    split
    ·rename_i h; rw [if_neg (by omega), List.getElem?_eq_none (by omega)]
    ·rfl
 exact this I C rfl
theorem Y1hz (C : List YC) (x : YS) (a : Nat) : stq C x a = Yms C x a := by
 apply List.ext_getElem?
 intro p
 unfold stq Yms Ys7
 rw [Y1fb, Ywm, List.take_length]
 congr 1
 apply propext
 constructor
 ·rintro ⟨⟨i, hi, h⟩, h2⟩
  obtain ⟨y, hy, h3, rfl⟩ := Ykf.1 hi
  exact ⟨⟨y, List.mem_reverse.2 hy, h3, h⟩, h2⟩
 ·rintro ⟨⟨y, hy, h3, h⟩, h2⟩
  exact ⟨⟨_, Ykf.2 ⟨y, List.mem_reverse.1 hy, h3, rfl⟩, h⟩, h2⟩
def Yp5 (s : YS) : Prop := okY s = true /\ Ydp s <= 40
theorem Y11y {f : Nat -> Int -> YS × Bool × Int} {z : YS} {q : Int} {O : List YS} (h : z ∈ O) : ∀ j, z ∈ (itr f j q O).1
 | 0 => h
 | j + 1 => by
  have := Y11y (f := f) (q := q) h j
  simp only [itr]; split
  ·exact List.mem_append_left _ this
  ·exact this
theorem Y1a3 {f : Nat -> Int -> YS × Bool × Int} {q : Int} {O : List YS} {j : Nat} (h : (itr f (j + 1) q O).2.1 = true) : (itr f j q O).2.1 = true := by
 simp only [itr] at h; split at h
 ·assumption
 ·exact h
theorem Y14s {f g : Nat -> Int -> YS × Bool × Int} (hg : ∀ j q, 0 <= q -> (g j q).2.1 = true -> 0 <= (g j q).2.2 /\ (g j q).2.2 + 1 <= q)
  (h : ∀ j q, 0 <= q -> q <= 2000 -> ((g j q).2.1 = true -> f j q = g j q) /\ ((f j q).2.1 = true -> Yp5 (f j q).1 -> (g j q).2.1 = true)) {q : Int} (h0 : 0 <= q) (h1 : q <= 2000) (O : List YS) :
  ∀ j, ((itr g j q O).2.1 = true -> itr f j q O = itr g j q O /\ 0 <= (itr g j q O).2.2 /\ (itr g j q O).2.2 <= q) /\ ((itr f j q O).2.1 = true -> (∀ z ∈ (itr f j q O).1, Yp5 z) -> (itr g j q O).2.1 = true)
 | 0 => ⟨fun _ => ⟨rfl, h0, Int.le_refl _⟩, fun _ _ => rfl⟩
 | j + 1 => by
  obtain ⟨ih1, ih2⟩ := Y14s hg h h0 h1 O j
  constructor
  ·intro ht
   have hj := Y1a3 ht
   obtain ⟨e, b1, b2⟩ := ih1 hj
   rw [Ykm g j q O hj] at ht ⊢
   rw [Ykm f j q O (by rw [e]; exact hj), e]
   have h3 := (h j _ b1 (by omega)).1 ht
   have h4 := hg j _ b1 ht
   rw [h3]
   exact ⟨rfl, h4.1, by simp only; omega⟩
  ·intro ht hz
   have hj := Y1a3 ht
   rw [Ykm f j q O hj] at ht hz
   have hgj := ih2 hj fun z hz' => hz z (List.mem_append_left _ hz')
   obtain ⟨e, b1, b2⟩ := ih1 hgj
   rw [Ykm g j q O hgj]
   have h3 := (h j (itr f j q O).2.2 (by rw [e]; exact b1) (by rw [e]; omega)).2 ht (hz _ (List.mem_append_right _ (List.mem_singleton.2 rfl)))
   rw [e] at h3
   exact h3
theorem Y15o {C : List YC} {x z : YS} {q : Int} {O : List YS} (h : z ∈ O) : z ∈ (bR C x q O).1 := by
 unfold bR bJ bI; split
 ·exact Y11y h _
 ·exact h
theorem Ylh : ∀ (l : List YS) (C : List YC) (q : Int) (O : List YS) (z : YS), z ∈ O -> z ∈ (Yfn l C q O).1
 | [], C, q, O, z, h => by rw [Yit]; exact h
 | [x], C, q, O, z, h => by
  rw [Ytr]; split
  ·exact Ylh [] C _ _ z (List.mem_append_left _ h)
  ·exact h
 | x :: y :: r, C, q, O, z, h => by
  rw [Ynb]; split
  ·split
   ·exact Ylh r C _ _ z (Y15o h)
   ·exact Y15o h
  ·split
   ·exact Ylh (y :: r) C _ _ z (List.mem_append_left _ h)
   ·exact h
def Y1cv (x : YS) : Prop := ∀ C q, 0 <= q -> q <= 2000 -> ((bli x C q).2.1 = true -> bld x C q = bli x C q) /\ ((bld x C q).2.1 = true -> Yp5 (bld x C q).1 -> (bli x C q).2.1 = true)
theorem Y1iw {x : YS} (hx : Y1cv x) (C : List YC) {q : Int} (h0 : 0 <= q) (h1 : q <= 2000) (O : List YS) :
  ((iR C x q O).2.1 = true -> bR C x q O = iR C x q O /\ 0 <= (iR C x q O).2.2 /\ (iR C x q O).2.2 <= q) /\ ((bR C x q O).2.1 = true -> (∀ z ∈ (bR C x q O).1, Yp5 z) -> (iR C x q O).2.1 = true) := by
 obtain ⟨e1, e2⟩ := Y1l8 C x
 unfold iR bR bJ
 rw [e1]
 by_cases c : cnB C x = true
 ·rw [if_pos c, if_pos c, e2 c]
  have e3 : iI C x (bN C x) q O = itr (fun j q => bli x (Yms C x j) q) (bN C x) q O := by unfold iI; congr 1; funext j m; rw [Y1hz]
  rw [e3]
  exact Y14s (fun j q => Yrq x _ q) (fun j q a b => hx _ q a b) h0 h1 O (bN C x)
 ·rw [if_neg c, if_neg c]
  exact ⟨fun h => (by cases h), fun h => (by cases h)⟩
theorem Yn2 : ∀ (l : List YS) (b : Bool), (∀ x ∈ l, Yj2 x = true -> Y1cv x) -> (∀ x, l.head? = some x -> Yd5 x = false) -> Yek b l = true -> ∀ C q O, 0 <= q -> q <= 2000 ->
  ((Ydy l C q O).2.1 = true -> Yfn l C q O = Ydy l C q O) /\ ((Yfn l C q O).2.1 = true -> (∀ z ∈ (Yfn l C q O).1, Yp5 z) -> (Ydy l C q O).2.1 = true)
 | [], b, _, _, _, C, q, O, h0, h1 => by rw [Yit, Ykv]; exact ⟨fun _ => rfl, fun _ _ => rfl⟩
 | [x], b, hx, hh, hd, C, q, O, h0, h1 => by
  have hn : Yd5 x = false := hh x rfl
  simp only [Yek, hn, Bool.and_true] at hd
  have h := hx x List.mem_cons_self (by simpa using hd) C q h0 h1
  rw [Ytr, Ytq, Yit, Ykv]
  constructor
  ·intro ht
   by_cases e : (bli x C q).2.1 = true
   ·rw [if_pos e, h.1 e, if_pos e]
   ·rw [if_neg e] at ht; cases ht
  ·intro ht hz
   by_cases e : (bld x C q).2.1 = true
   ·rw [if_pos e] at hz
    have := h.2 e (hz _ (List.mem_append_right _ (List.mem_singleton.2 rfl)))
    rw [if_pos this]
   ·rw [if_neg e] at ht; cases ht
 | x :: y :: r, b, hx, hh, hd, C, q, O, h0, h1 => by
  have hn : Yd5 x = false := hh x rfl
  have hd2 : Yj2 x = true /\ Yek false (y :: r) = true := by
   rw [Yek, hn] at hd
   simpa using hd
  have hxr := hx x List.mem_cons_self hd2.1
  rw [Ynb, Yne]
  by_cases d : Yd5 y = true
  ·rw [if_pos d, if_pos d]
   have hr : Yek true r = true := by
    have := hd2.2
    rw [Yek, d] at this
    simpa using this
   have hrh : ∀ z, r.head? = some z -> Yd5 z = false := by
    intro z hz
    cases r with
    | nil => cases hz
    | cons w r =>
     simp only [List.head?_cons, Option.some.injEq] at hz
     subst hz
     cases e : Yd5 w with
     | false => rfl
     | true => rw [Yek, e] at hr; simp at hr
   have h := Y1iw hxr C h0 h1 O
   constructor
   ·intro ht
    by_cases e : (iR C x q O).2.1 = true
    ·obtain ⟨e1, b1, b2⟩ := h.1 e
     rw [if_pos e] at ht ⊢
     rw [e1, if_pos e]
     exact (Yn2 r true (fun z hz => hx z (List.mem_cons_of_mem _ (List.mem_cons_of_mem _ hz))) hrh hr C _ _ b1 (by omega)).1 ht
    ·rw [if_neg e] at ht; exact absurd ht e
   ·intro ht hz
    by_cases e : (bR C x q O).2.1 = true
    ·rw [if_pos e] at ht hz
     have hi := h.2 e fun z hz' => hz z (Ylh r C _ _ z hz')
     obtain ⟨e1, b1, b2⟩ := h.1 hi
     rw [if_pos hi]
     rw [e1] at ht hz
     exact (Yn2 r true (fun z hz => hx z (List.mem_cons_of_mem _ (List.mem_cons_of_mem _ hz))) hrh hr C _ _ b1 (by omega)).2 ht hz
    ·rw [if_neg e] at ht; exact absurd ht e
  ·rw [if_neg d, if_neg d]
   have h := hxr C q h0 h1
   have hyh : ∀ z, (y :: r).head? = some z -> Yd5 z = false := by
    intro z hz
    simp only [List.head?_cons, Option.some.injEq] at hz
    subst hz; simpa using d
   constructor
   ·intro ht
    by_cases e : (bli x C q).2.1 = true
    ·have hb := Yrq x C q h0 e
     rw [if_pos e] at ht ⊢
     rw [h.1 e, if_pos e]
     exact (Yn2 (y :: r) false (fun z hz => hx z (List.mem_cons_of_mem _ hz)) hyh hd2.2 C _ _ hb.1 (by omega)).1 ht
    ·rw [if_neg e] at ht; cases ht
   ·intro ht hz
    by_cases e : (bld x C q).2.1 = true
    ·rw [if_pos e] at ht hz
     have hi := h.2 e (hz _ (Ylh (y :: r) C _ _ _ (List.mem_append_right _ (List.mem_singleton.2 rfl))))
     have hb := Yrq x C q h0 hi
     rw [if_pos hi]
     rw [h.1 hi] at ht hz
     exact (Yn2 (y :: r) false (fun z hz => hx z (List.mem_cons_of_mem _ hz)) hyh hd2.2 C _ _ hb.1 (by omega)).2 ht hz
    ·rw [if_neg e] at ht; cases ht
theorem Y16z {l : List YS} (h : Yek true l = true) : ∀ x, l.head? = some x -> Yd5 x = false := by
 intro x hx
 cases l with
 | nil => cases hx
 | cons y r =>
  simp only [List.head?_cons, Option.some.injEq] at hx
  subst hx
  cases e : Yd5 y with
  | false => rfl
  | true => rw [Yek, e] at h; simp at h
theorem Y110 {t : YS} (h : okY t = true) : (t.kind = 1 -> t.items = []) /\ (t.kind ≠ 1 -> t.scopes = []) := by
 rw [Yj6] at h
 simp only [Yjc, Yjf, Bool.and_eq_true, Bool.or_eq_true, decide_eq_true_eq] at h
 constructor
 ·intro hk
  have : (t.items.length : Int) = 0 := by omega
  exact List.length_eq_zero_iff.1 (by omega)
 ·intro hk
  have : (t.scopes.length : Int) = 0 := by omega
  exact List.length_eq_zero_iff.1 (by omega)
theorem Y1do (t : YS) : t = ⟨t.kind, t.number, t.text, t.scopes, t.items⟩ := by cases t; rfl
theorem Y1fn : ∀ t, okY t = true -> Yj2 t = true -> Y1cv t := by
 refine YS.ind fun t ih hok hdot C q h0 h1 => ?_
 have hn := Y110 hok
 have hd := Ymb t
 rw [hdot] at hd
 have hd1 : Yd5 t = false /\ Yek true t.items = true := by
  have := hd.symm
  simpa using this
 have hsz := Ye6 (Ydw C t).form
 by_cases hc : t.kind = 1 /\ 0 <= fnd C t
 ·rw [Yk3, if_pos hc, Yuw, if_pos hc.1, if_neg (by rw [hd1.1]; simp; omega : ¬ (Yd5 t = true ∨ fnd C t < 0))]
  by_cases c4 : (Ydw C t).depth ≠ 0
  ·rw [if_pos c4, if_pos c4]
   exact ⟨fun h => (by cases h), fun h => (by split at h <;> cases h)⟩
  ·rw [if_neg c4, if_neg c4]
   constructor
   ·intro h
    by_cases c5 : Ydk (Ydw C t).form = true
    ·rw [if_pos c5] at h ⊢
     simp only [decide_eq_true_eq] at h
     rw [if_neg (by omega), if_pos (by omega)]
     have e : max (q - (sizeY (Ydw C t).form : Int)) (-1) = q - sizeY (Ydw C t).form := by omega
     rw [e, decide_eq_true h]
    ·rw [if_neg c5] at h; cases h
   ·intro h hg
    by_cases c1 : q - 1 < 0
    ·rw [if_pos c1] at h; cases h
    ·rw [if_neg c1] at h hg
     by_cases c6 : (sizeY (Ydw C t).form : Int) <= q
     ·rw [if_pos c6] at hg
      have c5 : Ydk (Ydw C t).form = true := by
       simp only [Ydk, Bool.and_eq_true, decide_eq_true_eq]
       exact ⟨⟨by omega, hg.2⟩, hg.1⟩
      rw [if_pos c5]
      simp only [decide_eq_true_eq]; omega
     ·rw [if_neg c6] at h; cases h
 ·rw [Yk3, if_neg hc, Yuw]
  by_cases c1 : q - 1 < 0
  ·rw [if_pos c1, if_pos c1]
   exact ⟨fun h => (by cases h), fun h => (by cases h)⟩
  ·rw [if_neg c1, if_neg c1]
   by_cases hk : t.kind = 1
   ·have hi := hn.1 hk
    rw [if_pos hk, if_pos (Or.inr (by omega) : Yd5 t = true ∨ fnd C t < 0), hi, Ykv, hd1.1]
    refine ⟨fun _ => ?_, fun _ _ => rfl⟩
    have e : t = ⟨t.kind, t.number, t.text, t.scopes, []⟩ := Eq.trans (Y1do t) (by rw [hi])
    show (t, true, q - 1) = ((⟨t.kind, t.number, t.text, t.scopes, []⟩ : YS), true, q - 1)
    rw [<- e]
   ·rw [if_neg hk]
    have hs := hn.2 hk
    have hall : ∀ x ∈ t.items, okY x = true := by
     rw [Yj6, Bool.and_eq_true, List.all_eq_true] at hok; exact hok.1
    have h := Yn2 t.items true (fun x hx => ih x hx (hall x hx)) (Y16z hd1.2) hd1.2 C (q - 1) [] (by omega) (by omega)
    constructor
    ·intro ht
     by_cases e : (Ydy t.items C (q - 1) []).2.1 = true
     ·rw [if_pos e, h.1 e, if_pos e, hs]
     ·rw [if_neg e] at ht; cases ht
    ·intro ht hg
     by_cases e : (Yfn t.items C (q - 1) []).2.1 = true
     ·rw [if_pos e] at hg
      have hz : ∀ z ∈ (Yfn t.items C (q - 1) []).1, Yp5 z := by
       intro z hz
       obtain ⟨g1, g2⟩ := hg
       rw [Yj6, Bool.and_eq_true, List.all_eq_true] at g1
       rw [Yku] at g2
       have := Yqu Ydp hz
       exact ⟨g1.1 z hz, by simp only at g2; omega⟩
      rw [if_pos (h.2 e hz)]
     ·rw [if_neg e] at ht; cases ht
def Ylt (t : YS) (C : List YC) : Bool := Ydk t && Yj2 t && (bld t C 2000).2.1 && Ydk (bld t C 2000).1
def Yo2 (t : YS) (C : List YC) : YS := if Ylt t C = true then (bld t C 2000).1 else zY
theorem Y1cx {t : YS} (C : List YC) (h1 : Ydk t = true) (h2 : Yj2 t = true) : Ylt t C = ((bli t C 2000).2.1 && Ydk (bli t C 2000).1) /\ ((bli t C 2000).2.1 = true -> (bld t C 2000).1 = (bli t C 2000).1) := by
 have hok : okY t = true := by simp only [Ydk, Bool.and_eq_true] at h1; exact h1.2
 have h := Y1fn t hok h2 C 2000 (by decide) (by decide)
 refine ⟨?_, fun e => by rw [h.1 e]⟩
 unfold Ylt
 rw [h1, h2, Bool.eq_iff_iff]
 simp only [Bool.true_and, Bool.and_eq_true]
 constructor
 ·rintro ⟨a, b⟩
  have hg : Yp5 (bld t C 2000).1 := by simp only [Ydk, Bool.and_eq_true, decide_eq_true_eq] at b; exact ⟨b.2, b.1.2⟩
  have := h.2 a hg
  exact ⟨this, by rw [<- h.1 this]; exact b⟩
 ·rintro ⟨a, b⟩
  rw [h.1 a]; exact ⟨a, b⟩
section
variable {t : YS} {C : List YC} {q : Int}
theorem Y1j8 (h : ¬ q - 1 < 0) (h1 : t.kind = 1) (h2 : Yd5 t = false) (h3 : ¬ fnd C t < 0) (h4 : (C.getD (fnd C t).toNat default).depth = 0) (h5 : (sizeY (C.getD (fnd C t).toNat default).form : Int) <= q) : bld t C q = ((C.getD (fnd C t).toNat default).form, true, max (q - sizeY (C.getD (fnd C t).toNat default).form) (-1)) := by
 rw [Yuw, if_neg h, if_pos h1, if_neg (by rw [h2]; rintro (a | a); cases a; exact h3 a), if_neg (by intro e; exact e h4), if_pos (show (sizeY (Ydw C t).form : Int) <= q from h5)]; rfl
theorem Y18v (h : ¬ q - 1 < 0) (h1 : ¬ t.kind = 1) (h2 : (Yfn t.items C (q - 1) []).2.1 = true) : bld t C q = (⟨t.kind, t.number, t.text, [], (Yfn t.items C (q - 1) []).1⟩, true, (Yfn t.items C (q - 1) []).2.2) := by
 rw [Yuw, if_neg h, if_neg h1, if_pos h2]
theorem Y1i4 (h1 : t.kind = 1) (h3 : 0 <= fnd C t) (h4 : ¬ (C.getD (fnd C t).toNat default).depth = 0) : bli t C q = (zY, false, q) := by
 rw [Yk3, if_pos ⟨h1, h3⟩, if_pos (show (Ydw C t).depth ≠ 0 from h4)]
theorem Y1hs (h1 : t.kind = 1) (h3 : 0 <= fnd C t) (h4 : (C.getD (fnd C t).toNat default).depth = 0) (h5 : (Yed (C.getD (fnd C t).toNat default).form 1 0).1 = false) : bli t C q = (zY, false, q) := by
 rw [Yoo] at h5
 rw [Yk3, if_pos ⟨h1, h3⟩, if_neg (by intro e; exact e h4), if_neg (by show ¬ Ydk (C.getD (fnd C t).toNat default).form = true; rw [h5]; decide)]
theorem Y1hd (h1 : t.kind = 1) (h3 : 0 <= fnd C t) (h4 : (C.getD (fnd C t).toNat default).depth = 0) (h5 : (Yed (C.getD (fnd C t).toNat default).form 1 0).1 = true) : bli t C q = ((C.getD (fnd C t).toNat default).form, decide (0 <= q - (Yed (C.getD (fnd C t).toNat default).form 1 0).2), q - (Yed (C.getD (fnd C t).toNat default).form 1 0).2) := by
 have e := (Yoh (C.getD (fnd C t).toNat default).form 1 0 (by decide)).2 h5
 rw [Yoo] at h5
 rw [Yk3, if_pos ⟨h1, h3⟩, if_neg (by intro e; exact e h4), if_pos (show Ydk (Ydw C t).form = true from h5), e, Int.zero_add]; rfl
theorem Y1j5 (h1 : ¬ (t.kind = 1 /\ 0 <= fnd C t)) (h : q - 1 < 0) : bli t C q = (zY, false, q - 1) := by rw [Yk3, if_neg h1, if_pos h]
theorem Y1hn (h1 : ¬ (t.kind = 1 /\ 0 <= fnd C t)) (h : ¬ q - 1 < 0) (h2 : (Ydy t.items C (q - 1) []).2.1 = true) : bli t C q = (⟨t.kind, t.number, t.text, t.scopes, (Ydy t.items C (q - 1) []).1⟩, true, (Ydy t.items C (q - 1) []).2.2) := by rw [Yk3, if_neg h1, if_neg h, if_pos h2]
theorem Y1il (h1 : ¬ (t.kind = 1 /\ 0 <= fnd C t)) (h : ¬ q - 1 < 0) (h2 : (Ydy t.items C (q - 1) []).2.1 = false) : bli t C q = (zY, false, (Ydy t.items C (q - 1) []).2.2) := by rw [Yk3, if_neg h1, if_neg h, if_neg (by rw [h2]; decide)]
end
theorem Y1kq (C : List YC) (x : YS) (q : Int) (O : List YS) (h0 : 0 <= q) (h : (iR C x q O).2.1 = true) : 0 <= (iR C x q O).2.2 /\ ((iR C x q O).1.length : Int) + (iR C x q O).2.2 <= O.length + q := by
 unfold iR at h ⊢
 by_cases c : rqB C x = true
 ·rw [if_pos c] at h ⊢; exact Y1ec C x _ q O h0 h
 ·rw [if_neg c] at h; cases h
theorem Yqp {C : List YC} {x : YS} {j : Nat} (h : j < (rpX C x).length) : 0 <= (rpX C x).getD j 0 /\ (rpX C x).getD j 0 < C.length /\ ((rpX C x).getD j 0).toNat < C.length := by
 have h1 : (rpX C x).getD j 0 ∈ rpX C x := Yd6 h
 obtain ⟨y, _, hr, e⟩ := Ykf.1 h1
 have h2 := (Yxf hr).2
 have h3 := Yn8 C y
 rw [e] at h2 h3
 omega
theorem Y1ct {C : List YC} {I : List Int} {n : Int} {j : Nat} (h : j < I.length) (h0 : rqA C (I.take j) n = true) (e : ((C.getD (I.getD j 0).toNat default).each.length : Int) = n) : rqA C (I.take (j + 1)) n = true := by
 have e2 : I.getD j default = I.getD j 0 := rfl
 unfold rqA at *; rw [Ydn h, List.all_append, h0, e2]
 simp only [List.all_cons, List.all_nil, Bool.and_true, Bool.true_and]; exact decide_eq_true (show lnI C (I.getD j 0) = n from e)
theorem Y1dk {C : List YC} {I : List Int} {n : Int} {j : Nat} (h : j < I.length) (e : ¬ ((C.getD (I.getD j 0).toNat default).each.length : Int) = n) : rqA C I n = false := by
 unfold rqA; rw [List.all_eq_false]; exact ⟨I.getD j 0, Yd6 h, by rw [show decide (lnI C (I.getD j 0) = n) = false from decide_eq_false e]; decide⟩
theorem Y1ie {C : List YC} {x : YS} {j : Nat} (h0 : 0 < (rpX C x).length) (h : (rpX C x).length <= j) (e : rqA C ((rpX C x).take j) (lnI C ((rpX C x).getD 0 0)) = true) : rqB C x = true := by
 rw [List.take_of_length_le h] at e
 have e2 : (rpX C x).getD 0 default = (rpX C x).getD 0 0 := rfl
 unfold rqB; rw [e2, e, decide_eq_false (by omega)]; rfl
theorem Y1i9 {C : List YC} {x : YS} {j : Nat} (h : j < (rpX C x).length) (e : ¬ ((C.getD ((rpX C x).getD j 0).toNat default).each.length : Int) = ((C.getD ((rpX C x).getD 0 0).toNat default).each.length : Int)) (q : Int) (O : List YS) : iR C x q O = (O, false, q) := by
 have e2 : (rpX C x).getD 0 default = (rpX C x).getD 0 0 := rfl
 have h1 := Y1dk h e
 unfold iR rqB; rw [e2, show lnI C ((rpX C x).getD 0 0) = ((C.getD ((rpX C x).getD 0 0).toNat default).each.length : Int) from rfl, h1]; simp
theorem Y1cm {C : List YC} {x : YS} (h : rqB C x = true) {j : Nat} (hj : j < (rpX C x).length) : (C.getD ((rpX C x).getD j 0).toNat default).each.length = rqN C x := by
 simp only [rqB, rqA, Bool.and_eq_true, List.all_eq_true, decide_eq_true_eq] at h
 have := h.2 _ (Yd6 hj)
 simp only [lnI] at this
 exact Int.ofNat.inj this
theorem Y1af {C : List YC} (hC : ∀ z ∈ C, mxP z <= 1000000000) {x : YS} (h0 : 0 < (rpX C x).length) : rqN C x <= 1000000000 := by
 have h1 := Yqp h0
 have h2 := hC _ (Yd6 h1.2.2)
 have h3 := Yuz (C.getD ((rpX C x).getD 0 0).toNat default)
 have e2 : (rpX C x).getD 0 default = (rpX C x).getD 0 0 := rfl
 simp only [rqN, e2]; omega
theorem Y1gw {C : List YC} {x : YS} {a k : Nat} (h : (rpX C x).length <= k) : Yi2 C a ((rpX C x).take k) = stq C x a := by rw [List.take_of_length_le h]
theorem Y1ku {C : List YC} {x : YS} {j : Nat} {q : Int} {O : List YS} (h : rqB C x = true) (hj : j <= rqN C x) (hn : rqN C x <= j) : iR C x q O = iI C x j q O := by
 unfold iR; rw [if_pos h, show rqN C x = j by omega]
theorem Y1hy {C : List YC} {x : YS} {j : Nat} {q : Int} {O : List YS} (h : rqB C x = true) (hj : j < rqN C x) (h1 : (iI C x j q O).2.1 = true) (h2 : (bli x (stq C x j) (iI C x j q O).2.2).2.1 = false) : (iR C x q O).2.1 = false /\ (iR C x q O).2.2 = (bli x (stq C x j) (iI C x j q O).2.2).2.2 := by
 have e := Y147 C x j q O h1
 have e2 := Y1fl C x (j + 1) (rqN C x) q O (by rw [e]; exact h2) (by omega)
 unfold iR; rw [if_pos h, e2, e]; exact ⟨h2, rfl⟩
theorem Y1h9 {C : List YC} {k : Nat} {x : YC} : (C.map Yd0).set k (Ydj x) = (C.set k x).map Yd0 := by rw [List.map_set, Yla]
theorem dfI : (default : Int) = 0 := rfl
theorem Y1bf {C : List YC} {I : List Int} {j : Nat} (h : j < I.length) (h0 : rqA C (I.take j) (lnI C (I.getD 0 0)) = true) (e : ((C.getD (I.getD j 0).toNat default).each.length : Int) = ((C.getD (I.getD 0 0).toNat default).each.length : Int)) : rqA C (I.take (j + 1)) (lnI C (I.getD 0 0)) = true := Y1ct h h0 e
theorem Y1fz {k : Prop} [Decidable k] {x : Int} (h : 0 <= if k then x else -1) : k /\ 0 <= x := by
 split at h
 ·exact ⟨‹_›, h⟩
 ·omega
theorem Y1h7 (s : YS) (h : (Yed s 1 0).1 = true) : 0 <= (Yed s 1 0).2 /\ (Yed s 1 0).2 <= 2000 := by
 have h1 := ((Yoh s 1 0 (by decide)).1).1 h
 have h2 := (Yoh s 1 0 (by decide)).2 h
 omega
end Go.Proofs.YtclpofblehlojaaGreat
end
section
namespace Go.Proofs.YtclpofblehlojaaGreat
open Go Ab
set_option maxHeartbeats 4000000
abbrev Z7 (t : YS) (C : List YC) (q : Int) : Ct := ⟨45, [.box [vI q]], [.one (.ptr 0 0), Ydl t, ll (C.map Yd0)], .box [vI (bli t C q).2.2] :: Yg5 (bli t C q).1, .tup [Yg6 (bli t C q).1 1, lb (bli t C q).2.1]⟩
def Z1z (t : YS) (C : List YC) (q : Int) (k : Nat × Int × List YS) (k1 : Nat) : Lp Nat := .mk 206 1 (fun x => [(0, .one (.ptr 0 0)), (2, ll (List.map
 Yd0 C)), (4, .one (.ptr 1 0)), (6, .one (.ptr 2 0)), (10, .one (.ptr 3 0)), (11, li ((k.fst : Int) + 1)), (12, .one (.ptr 4 0)), (15, .one (.ref 5)),
 (16, li (↑((C.getD ((rpi C (t.items.getD k.fst default) []).getD 0 0).toNat default).each.map Yd0).length : Int)), (19, li (k1 : Int)), (20, .one (.ref 6)), (171,
 .one (.ref 5)), (172, li (↑((rpi C (t.items.getD k.fst default) []).map Yd2).length : Int)), (173, hs x 0)]) (fun x => [.box [vI (iI C (t.items.getD k.fst default) k1
 k.snd.fst k.snd.snd).snd.snd], .box (vals (Yda t)), .box [vI 0, vI 0, vS (ByteArray.mk #[]), .val (.lit (.slice none 0 0)), .val (.lit (.slice none 0
 0))], .box [vI t.kind, vI t.number, vS t.text, .ref 7, .ref 8], .box (vals (Yda (t.items.getD k.fst default))), .arr true 1 ((rpi C (t.items.getD k.fst
 default) []).map Yd2), ho x 1, .arr true 1 (t.scopes.map Yd2), .arr true 5 ((iI C (t.items.getD k.fst default) k1 k.snd.fst k.snd.snd).fst.map Ycz)]) (fun k2 => [.s (li
 (k2 : Int)), .o (.arr false 12 ((Yi2 C k1 (List.take k2 (rpX C (t.items.getD k.fst default)))).map Yd0))]) (fun k2 => k2 <= (rpX C (t.items.getD k.fst
 default)).length /\ (rpX C (t.items.getD k.fst default)).length <= 1000000001 /\ k1 < rqN C (t.items.getD k.fst default) /\ rqB C (t.items.getD k.fst default) = true) (fun k2 => (rpX
 C (t.items.getD k.fst default)).length - k2) [.mk True (.exit 6) (fun x => [(0, .one (.ptr 0 0)), (2, ll (C.map Yd0)), (4, .one (.ptr 1 0)), (6, .one (.ptr 2
 0)), (10, .one (.ptr 3 0)), (11, li ((k.fst : Int) + 1)), (12, .one (.ptr 4 0)), (15, .one (.ref 5)), (16, li (↑((C.getD ((rpi C (t.items.getD k.fst
 default) []).getD 0 0).toNat default).each.map Yd0).length : Int)), (19, li (k1 : Int)), (20, .one (.ref 6))]) (fun x => [.box [vI (iI C (t.items.getD k.fst default) k1 k.snd.fst
 k.snd.snd).snd.snd], .box (vals (Yda t)), .box [vI 0, vI 0, vS (ByteArray.mk #[]), .val (.lit (.slice none 0 0)), .val (.lit (.slice none 0 0))],
 .box [vI t.kind, vI t.number, vS t.text, .ref 7, .ref 8], .box (vals (Yda (t.items.getD k.fst default))), .arr true 1 ((rpi C (t.items.getD k.fst
 default) []).map Yd2), ho x 0, .arr true 1 (t.scopes.map Yd2), .arr true 5 ((iI C (t.items.getD k.fst default) k1 k.snd.fst k.snd.snd).fst.map Ycz)]) [.o (.arr false
 12 ((stq C (t.items.getD k.fst default) k1).map Yd0))]]
def Z20 (t : YS) (C : List YC) (q : Int) (k : Nat × Int × List YS) : Lp Nat := .mk 206 1 (fun x => [(0, .one (.ptr 0 0)), (2, ll (C.map Yd0)),
 (4, .one (.ptr 1 0)), (6, .one (.ptr 2 0)), (10, .one (.ptr 3 0)), (11, li ((k.fst : Int) + 1)), (12, .one (.ptr 4 0)), (15, .one (.ref 5)), (16, li
 (↑((C.getD ((rpi C (t.items.getD k.fst default) []).getD 0 0).toNat default).each.map Yd0).length : Int)), (19, hs x 0)]) (fun x => [.box [ha x 1], .box (vals
 (Yda t)), .box [vI 0, vI 0, vS (ByteArray.mk #[]), .val (.lit (.slice none 0 0)), .val (.lit (.slice none 0 0))], .box [vI t.kind, vI t.number, vS
 t.text, .ref 6, .ref 7], .box (vals (Yda (t.items.getD k.fst default))), .arr true 1 ((rpi C (t.items.getD k.fst default) []).map Yd2), .arr true 1 (List.map
 Yd2 t.scopes), ho x 2]) (fun k1 => [.s (li (k1 : Int)), .a (vI (iI C (t.items.getD k.fst default) k1 k.snd.fst k.snd.snd).snd.snd), .o (.arr true 5 ((iI C
 (t.items.getD k.fst default) k1 k.snd.fst k.snd.snd).fst.map Ycz))]) (fun k1 => k1 <= rqN C (t.items.getD k.fst default) /\ rqB C (t.items.getD k.fst default) = true /\ (iI C (t.items.getD
 k.fst default) k1 k.snd.fst k.snd.snd).snd.fst = true /\ (rpX C (t.items.getD k.fst default)).length <= 1000000001 /\ k.fst + 1 < t.items.length /\ t.items.length <= 1000000000 /\
 Yd5 (t.items.getD (k.fst + 1) default) = true /\ 0 <= k.snd.fst /\ (k.snd.snd.length : Int) + k.snd.fst <= 2000 /\ Ydy t.items C (q - 1) [] = Ydy (List.drop k.fst t.items) C
 k.snd.fst k.snd.snd) (fun k1 => rqN C (t.items.getD k.fst default) - k1) [.mk ((iR C (t.items.getD k.fst default) k.snd.fst k.snd.snd).snd.fst = true) (.exit 4) (fun x => [(0,
 .one (.ptr 0 0)), (2, ll (C.map Yd0)), (4, .one (.ptr 1 0)), (6, .one (.ptr 2 0)), (10, .one (.ptr 3 0)), (11, li ((k.fst : Int) + 1))]) (fun x =>
 [.box [ha x 0], .box (vals (Yda t)), .box [vI 0, vI 0, vS (ByteArray.mk #[]), .val (.lit (.slice none 0 0)), .val (.lit (.slice none 0 0))], .box
 [vI t.kind, vI t.number, vS t.text, .ref 4, .ref 5], .arr true 1 (t.scopes.map Yd2), ho x 1]) [.a (vI (iR C (t.items.getD k.fst default) k.snd.fst k.snd.snd).snd.snd),
 .o (.arr true 5 ((iR C (t.items.getD k.fst default) k.snd.fst k.snd.snd).fst.map Ycz))], .mk ((Ydy t.items C (q - 1) []).snd.fst = false) .ret (fun x => [(6, .one
 (.ptr 1 0)), (7, hs x 2)]) (fun x => [.box [ha x 0], ho x 1]) [.a (vI (Ydy t.items C (q - 1) []).snd.snd), .o (.box [vI 0, vI 0, vS (mkS []), .val (.lit (.slice
 none 0 0)), .val (.lit (.slice none 0 0))]), .s (lb false)]]
def Z21 (t : YS) (C : List YC) (q : Int) (k : Nat × Int × List YS) : Lp Nat := .mk 206 1 (fun x => [(0, .one (.ptr 0 0)), (2, ll (C.map Yd0)),
 (4, .one (.ptr 1 0)), (6, .one (.ptr 2 0)), (10, .one (.ptr 3 0)), (11, li ((k.fst : Int) + 1)), (12, .one (.ptr 4 0)), (15, .one (.ref 5)), (16, li
 (↑((C.getD ((rpi C (t.items.getD k.fst default) []).getD 0 0).toNat default).each.map Yd0).length : Int)), (148, .one (.ref 5)), (149, li (↑((rpi C
 (t.items.getD k.fst default) []).map Yd2).length : Int)), (150, hs x 0)]) (fun x => [.box [vI k.snd.fst], .box (vals (Yda t)), .box [vI 0, vI 0, vS (ByteArray.mk #[]), .val
 (.lit (.slice none 0 0)), .val (.lit (.slice none 0 0))], .box [vI t.kind, vI t.number, vS t.text, .ref 6, .ref 7], .box (vals (Yda (t.items.getD
 k.fst default))), .arr true 1 ((rpi C (t.items.getD k.fst default) []).map Yd2), .arr true 1 (t.scopes.map Yd2), .arr true 5 (k.snd.snd.map Ycz)]) (fun
 k1 => [.s (li (k1 : Int))]) (fun k1 => k1 <= (rpX C (t.items.getD k.fst default)).length /\ (rpX C (t.items.getD k.fst default)).length <= 1000000001 /\ rqA C (List.take k1 (rpX C
 (t.items.getD k.fst default))) (lnI C ((rpX C (t.items.getD k.fst default)).getD 0 default)) = true /\ 0 < (rpX C (t.items.getD k.fst default)).length /\ k.fst + 1 < t.items.length
 /\ t.items.length <= 1000000000 /\ Yd5 (t.items.getD (k.fst + 1) default) = true /\ 0 <= k.snd.fst /\ (k.snd.snd.length : Int) + k.snd.fst <= 2000 /\ Ydy t.items C (q - 1) [] = Ydy
 (List.drop k.fst t.items) C k.snd.fst k.snd.snd) (fun k1 => (rpX C (t.items.getD k.fst default)).length - k1) [.mk (rqB C (t.items.getD k.fst default) = true) (.exit 2) (fun x =>
 [(0, .one (.ptr 0 0)), (2, ll (C.map Yd0)), (4, .one (.ptr 1 0)), (6, .one (.ptr 2 0)), (10, .one (.ptr 3 0)), (11, li ((k.fst : Int) + 1)), (12, .one
 (.ptr 4 0)), (15, .one (.ref 5)), (16, li (↑((C.getD ((rpi C (t.items.getD k.fst default) []).getD 0 0).toNat default).each.map Yd0).length : Int))]) (fun x =>
 [.box [vI k.snd.fst], .box (vals (Yda t)), .box [vI 0, vI 0, vS (ByteArray.mk #[]), .val (.lit (.slice none 0 0)), .val (.lit (.slice none 0 0))],
 .box [vI t.kind, vI t.number, vS t.text, .ref 6, .ref 7], .box (vals (Yda (t.items.getD k.fst default))), .arr true 1 ((rpi C (t.items.getD k.fst
 default) []).map Yd2), .arr true 1 (t.scopes.map Yd2), .arr true 5 (k.snd.snd.map Ycz)]) [], .mk ((Ydy t.items C (q - 1) []).snd.fst = false) .ret (fun x => [(6,
 .one (.ptr 1 0)), (7, hs x 2)]) (fun x => [.box [ha x 0], ho x 1]) [.a (vI (Ydy t.items C (q - 1) []).snd.snd), .o (.box [vI 0, vI 0, vS (mkS []), .val (.lit
 (.slice none 0 0)), .val (.lit (.slice none 0 0))]), .s (lb false)]]
def Z22 (t : YS) (C : List YC) (q : Int) : Lp (Nat × Int × List YS) := .mk 206 1 (fun x => [(0, .one (.ptr 0 0)), (2, ll (C.map Yd0)), (4,
 .one (.ptr 1 0)), (6, .one (.ptr 2 0)), (10, .one (.ptr 3 0)), (11, hs x 0)]) (fun x => [.box [ha x 1], .box (vals (Yda t)), .box [vI 0, vI 0, vS
 (ByteArray.mk #[]), .val (.lit (.slice none 0 0)), .val (.lit (.slice none 0 0))], .box [vI t.kind, vI t.number, vS t.text, .ref 4, .ref 5], .arr
 true 1 (t.scopes.map Yd2), ho x 2]) (fun k => [.s (li (k.fst : Int)), .a (vI k.snd.fst), .o (.arr true 5 (k.snd.snd.map Ycz))]) (fun k => t.items.length >= k.fst
 /\ t.items.length <= 1000000000 /\ Ydy t.items C (q - 1) [] = Ydy (List.drop k.fst t.items) C k.snd.fst k.snd.snd /\ 0 <= k.snd.fst /\ (k.snd.snd.length : Int) + k.snd.fst <= 2000)
 (fun k => t.items.length - k.fst) [.mk ((Ydy t.items C (q - 1) []).snd.fst = true) (.exit 0) (fun x => [(6, .one (.ptr 1 0)), (10, .one (.ptr 2 0))]) (fun x => [.box
 [ha x 0], .box [vI 0, vI 0, vS (ByteArray.mk #[]), .val (.lit (.slice none 0 0)), .val (.lit (.slice none 0 0))], .box [vI t.kind, vI t.number, vS
 t.text, .ref 3, .ref 4], .arr true 1 (t.scopes.map Yd2), ho x 1]) [.a (vI (Ydy t.items C (q - 1) []).snd.snd), .o (.arr true 5 ((Ydy t.items C (q
 - 1) []).fst.map Ycz))], .mk ((Ydy t.items C (q - 1) []).snd.fst = false) .ret (fun x => [(6, .one (.ptr 1 0)), (7, hs x 2)]) (fun x => [.box [ha x 0], ho x 1]) [.a (vI (Ydy
 t.items C (q - 1) []).snd.snd), .o (.box [vI 0, vI 0, vS (mkS []), .val (.lit (.slice none 0 0)), .val (.lit (.slice none 0 0))]), .s (lb false)]]
theorem Z85 (t : YS) (C : List YC) (q : Int) (h : 0 <= q /\ q <= 2000 /\ wY t <= 1000000000 /\ C.length <= 1000000000) (hC : ∀ (z : YC), z ∈ C -> mxP z <=
 1000000000) (ih : ∀ (z : YS), z ∈ t.items -> ∀ (C : List YC) (q : Int), 0 <= q /\ q <= 2000 /\ wY z <= 1000000000 /\ C.length <= 1000000000 -> (∀ (z : YC), z ∈ C -> mxP z <=
 1000000000) -> OK (Z7 z C q)) (k : Nat × Int × List YS) (k1 : Nat) : Lp.Sem Tryz.prog (Ydg Tryz.f45 3) (Z1z t C q k k1) := Ydr (fun k2 => .i ((k2 : Int)
 < (↑((rpi C (t.items.getD k.fst default) []).map Yd2).length : Int)) (.p (0 <= (k2 : Int) /\ (k2 : Int).toNat < ((rpi C (t.items.getD k.fst default)
 []).map Yd2).length) (.w (.cells (Yd2 ((rpi C (t.items.getD k.fst default) []).getD (k2 : Int).toNat default))) (.p (((rpi C (t.items.getD k.fst default) []).map Yd2)[(↑k2 :
 Int).toNat]? = some [cI ((rpi C (t.items.getD k.fst default) []).getD (k2 : Int).toNat 0)]) (.x ((rpi C (t.items.getD k.fst default) []).getD (k2 : Int).toNat 0) (List.map
 Yd0 C) (Ydj (C.getD ((rpi C (t.items.getD k.fst default) []).getD (k2 : Int).toNat 0).toNat default)) (.x (k1 : Int) ((C.getD ((rpi C (t.items.getD
 k.fst default) []).getD (k2 : Int).toNat 0).toNat default).each.map Yd0) (Ydj ((C.getD ((rpi C (t.items.getD k.fst default) []).getD (k2 : Int).toNat 0).toNat default).each.getD k1
 default)) (.p (0 <= (rpi C (t.items.getD k.fst default) []).getD (k2 : Int).toNat 0 /\ ((rpi C (t.items.getD k.fst default) []).getD (k2 : Int).toNat 0).toNat < (List.map Yd0
 (Yi2 C k1 (List.take k2 (rpX C (t.items.getD k.fst default))))).length) (.w (.cells (Ydj ((Yi2 C k1 (List.take k2 (rpX C (t.items.getD k.fst default)))).getD ((rpi C
 (t.items.getD k.fst default) []).getD (k2 : Int).toNat 0).toNat default))) (.p (((Yi2 C k1 (List.take k2 (rpX C (t.items.getD k.fst default)))).map Yd0)[((rpi C
 (t.items.getD k.fst default) []).getD (k2 : Int).toNat 0).toNat]? = some (Ydj ((Yi2 C k1 (List.take k2 (rpX C (t.items.getD k.fst default)))).getD ((rpi C (t.items.getD
 k.fst default) []).getD (k2 : Int).toNat 0).toNat default))) (.r ((k2 : Int) + 1) (.g [0, 1, 2, 3, 4, 5, 6, 7, 8] (k2 + 1) [.s (li ((k2 : Int) + 1)), .o (.arr false 12
 (((Yi2 C k1 (List.take k2 (rpX C (t.items.getD k.fst default)))).map Yd0).set ((rpi C (t.items.getD k.fst default) []).getD (k2 : Int).toNat 0).toNat (Ydj
 ((C.getD ((rpi C (t.items.getD k.fst default) []).getD (k2 : Int).toNat 0).toNat default).each.getD k1 default))))])))))))))) (.o 0 [0, 1, 2, 3, 4, 5, 6, 7, 8] [.o (.arr false
 12 ((Yi2 C k1 (List.take k2 (rpX C (t.items.getD k.fst default)))).map Yd0))])) (by
 intro k2 h; try dsimp only [Yd3, Ydb, Z1z] at h ⊢
 obtain ⟨i, m, O⟩ := k
 simp only at *
 have hB := h.2.2.2
 have g1 := @Yqp C (t.items.getD i default) k2
 have g3 : k2 < (rpX C (t.items.getD i default)).length -> (C.getD ((rpX C (t.items.getD i default)).getD k2 0).toNat default).each.length = rqN C (t.items.getD i default) := fun a => Y1cm hB a
 have g4 := Y10a C k1 ((rpX C (t.items.getD i default)).take k2)
 have g5 : k2 < (rpX C (t.items.getD i default)).length -> (List.map Yd0 (Yi2 C k1 ((rpX C (t.items.getD i default)).take k2))).set ((rpX C (t.items.getD i default)).getD k2 0).toNat (Ydj ((C.getD ((rpX C (t.items.getD i default)).getD k2 0).toNat default).each.getD k1 default)) = List.map Yd0 (Yi2 C k1 ((rpX C (t.items.getD i default)).take (k2 + 1))) := fun a => by rw [Y1h9, Y1aj a]; rfl
 have g6 : (rpX C (t.items.getD i default)).length <= k2 -> Yi2 C k1 ((rpX C (t.items.getD i default)).take k2) = stq C (t.items.getD i default) k1 := fun a => Y1gw a
 with_reducible repeat' (first | apply And.intro | exact zR | exact ih | (intro) | apply Ze | apply Z4 | apply Z6 | apply Z1 | apply Z14)
 all_goals ((try simp only [std, inj] at *); with_reducible and_intros)
 all_goals try with_reducible first | apply Ze | apply Z4 | apply Z6 | apply Z1 | apply Z14 | apply ih
 all_goals try first | exact zw
 all_goals (try simp only [Bool.not_eq_true', Bool.not_eq_false', decide_eq_false_iff_not, decide_eq_true_eq, Decidable.not_not] at *)
 all_goals (try simp only [rpX, rqN, dfI] at *)
 all_goals (try first | exact hB | omega | (have := g1 (by omega); omega) | (have := g1 (by omega); exact Yq3 this.2.2 (Yla _)) | exact Yq3 (by have := g3 (by omega); omega) (Yla _) | exact g5 (by omega) | exact g6 (by omega) | (rw [g6 (by omega)]; done)))
theorem Z86 (t : YS) (C : List YC) (q : Int) (h : 0 <= q /\ q <= 2000 /\ wY t <= 1000000000 /\ C.length <= 1000000000) (hC : ∀ (z : YC), z ∈ C -> mxP z <=
 1000000000) (ih : ∀ (z : YS), z ∈ t.items -> ∀ (C : List YC) (q : Int), 0 <= q /\ q <= 2000 /\ wY z <= 1000000000 /\ C.length <= 1000000000 -> (∀ (z : YC), z ∈ C -> mxP z <=
 1000000000) -> OK (Z7 z C q)) (k : Nat × Int × List YS) : Lp.Sem Tryz.prog (Ydg Tryz.f45 2) (Z20 t C q k) := Ydr (fun k1 => .i ((k1 : Int) < (↑(List.map
 Yd0 (C.getD ((rpi C (t.items.getD k.fst default) []).getD 0 0).toNat default).each).length : Int)) (.w (.bool false) (.p (∀ (e : List Cell), e ∈ C.map Yd0 ->
 e.length = 12) (.p ((0 + (C.map Yd0).length) * 192 <= 140737488355328) (.z Yd2 (rpi C (t.items.getD k.fst default) []) (.l (Z1z t C q k k1) (Z85 t C
 q h hC ih k k1) [0, 1, 2, 3, 4, 5, 8, 6, 7] [.s (li 0), .o (.arr false 12 (C.map Yd0))] 0 (.t (.d [.ptr, .rd, .rd] (Z7 (t.items.getD k.fst default) (stq C
 (t.items.getD k.fst default) k1) (iI C (t.items.getD k.fst default) k1 k.snd.fst k.snd.snd).snd.snd) (.b (!(bli (t.items.getD k.fst default) (stq C (t.items.getD k.fst default)
 k1) (iI C (t.items.getD k.fst default) k1 k.snd.fst k.snd.snd).snd.snd).snd.fst) (.o 1 [0, 2] [.a (vI (bli (t.items.getD k.fst default) (stq C (t.items.getD k.fst default) k1) (iI
 C (t.items.getD k.fst default) k1 k.snd.fst k.snd.snd).snd.snd).snd.snd), .o (.box [vI 0, vI 0, vS (ByteArray.mk #[]), .val (.lit (.slice none 0 0)), .val (.lit
 (.slice none 0 0))]), .s (lb false)]) (.p ((((iI C (t.items.getD k.fst default) k1 k.snd.fst k.snd.snd).fst.map Ycz).length + 1) * 80 <= 140737488355328) (.r ((↑k1 :
 Int) + 1) (.g [0, 1, 2, 3, 4, 5, 7, 14] (k1 + 1) [.s (li ((k1 : Int) + 1)), .a (vI (bli (t.items.getD k.fst default) (stq C (t.items.getD k.fst default) k1) (iI C (t.items.getD
 k.fst default) k1 k.snd.fst k.snd.snd).snd.snd).snd.snd), .o (.arr true 5 ((iI C (t.items.getD k.fst default) k1 k.snd.fst k.snd.snd).fst.map Ycz ++ [Yda (bli
 (t.items.getD k.fst default) (stq C (t.items.getD k.fst default) k1) (iI C (t.items.getD k.fst default) k1 k.snd.fst k.snd.snd).snd.snd).fst]))]))))) .q)))))) (.o 0 [0, 1, 2, 3,
 6, 7] [.a (vI (iI C (t.items.getD k.fst default) k1 k.snd.fst k.snd.snd).snd.snd), .o (.arr true 5 ((iI C (t.items.getD k.fst default) k1 k.snd.fst
 k.snd.snd).fst.map Ycz))])) (by
 intro k1 h; try dsimp only [Yd3, Ydb, Z20, Z1z] at h ⊢
 obtain ⟨i, m, O⟩ := k
 simp only at *
 have hd := h.2.2.2.2.2.2.1
 have H := h.2.2.2.2.2.2.2.2.2
 have hB := h.2.1
 have hI := h.2.2.1
 have hj := h.1
 have hi := h.2.2.2.2.1
 have g1 := Y147 C (t.items.getD i default) k1 m O hI
 have g2 := Y1ec C (t.items.getD i default) k1 m O (by omega) hI
 have g8 := @Yhj t i (Nat.lt_of_succ_lt hi)
 have g9 : Yi2 C k1 ((rpX C (t.items.getD i default)).take 0) = C := rfl
 have g11 : 0 < (rpX C (t.items.getD i default)).length := by
  simp only [rqB, Bool.and_eq_true, Bool.not_eq_true', decide_eq_false_iff_not] at hB
  omega
 have g12 := Y1af hC g11
 have b0 : k1 < rqN C (t.items.getD i default) -> (bli (t.items.getD i default) (stq C (t.items.getD i default) k1) (iI C (t.items.getD i default) k1 m O).2.2).2.1 = false -> (Ydy t.items C (q - 1) []).2.1 = false /\ (Ydy t.items C (q - 1) []).2.2 = (bli (t.items.getD i default) (stq C (t.items.getD i default) k1) (iI C (t.items.getD i default) k1 m O).2.2).2.2 := fun a c => by
  have r := Y1hy hB a hI c
  rw [H, Ynl hi hd, if_neg (by rw [r.1]; decide)]; exact r
 have b1 : rqN C (t.items.getD i default) <= k1 -> iR C (t.items.getD i default) m O = iI C (t.items.getD i default) k1 m O := fun a => Y1ku hB hj a
 with_reducible repeat' (first | apply And.intro | exact zR | exact ih | (intro) | apply Ze | apply Z4 | apply Z6 | apply Z1 | apply Z14 | apply ih)
 all_goals ((try simp only [std, inj] at *); with_reducible and_intros)
 all_goals try first | with_reducible (first | apply Ze | apply Z4 | apply Z6 | apply Z1 | apply Z14 | apply ih) | (simp only [<- List.map_append]; with_reducible first | apply Ze | apply Z4 | apply Z6 | apply Z1 | apply Z14 | apply ih)
 all_goals try first | exact zw
 all_goals (try simp only [Bool.not_eq_true', Bool.not_eq_false', decide_eq_false_iff_not, decide_eq_true_eq, Decidable.not_not] at *)
 all_goals (try simp only [rpX, rqN, dfI] at *)
 all_goals (try first | exact hd | exact H | exact hB | exact Yd6 hi | exact hC _ (by assumption) | exact Y1i2 hC _ _ _ (by assumption) | exact g9.symm | (rw [g9]; done) | (rw [Y10a]; omega) | omega | exact (b0 (by omega) (by assumption)).1 | exact (b0 (by omega) (by assumption)).2.symm | (rw [g1]; done) | (rw [g1]; assumption) | (rw [g1]; exact Yd4 (C := Ycz) _ _) | (rw [b1 (by omega)]; done) | (rw [b1 (by omega)]; exact hI))
 all_goals (try exact Yd6 (Nat.lt_of_succ_lt hi)))
theorem Z87 (t : YS) (C : List YC) (q : Int) (h : 0 <= q /\ q <= 2000 /\ wY t <= 1000000000 /\ C.length <= 1000000000) (hC : ∀ (z : YC), z ∈ C -> mxP z <=
 1000000000) (ih : ∀ (z : YS), z ∈ t.items -> ∀ (C : List YC) (q : Int), 0 <= q /\ q <= 2000 /\ wY z <= 1000000000 /\ C.length <= 1000000000 -> (∀ (z : YC), z ∈ C -> mxP z <=
 1000000000) -> OK (Z7 z C q)) (k : Nat × Int × List YS) : Lp.Sem Tryz.prog (Ydg Tryz.f45 1) (Z21 t C q k) := Ydr (fun k1 => .i ((k1 : Int) < (↑(List.map
 Yd2 (rpi C (t.items.getD k.fst default) [])).length : Int)) (.p (0 <= (k1 : Int) /\ (k1 : Int).toNat < ((rpi C (t.items.getD k.fst default) []).map Yd2).length) (.w (.cells
 (Yd2 ((rpi C (t.items.getD k.fst default) []).getD (k1 : Int).toNat default))) (.p (((rpi C (t.items.getD k.fst default) []).map Yd2)[(k1 : Int).toNat]? = some [cI ((rpi
 C (t.items.getD k.fst default) []).getD (k1 : Int).toNat 0)]) (.x ((rpi C (t.items.getD k.fst default) []).getD (k1 : Int).toNat 0) (C.map Yd0) (Ydj (C.getD ((rpi
 C (t.items.getD k.fst default) []).getD (k1 : Int).toNat 0).toNat default)) (.z Yd0 (C.getD ((rpi C (t.items.getD k.fst default) []).getD (k1 : Int).toNat 0).toNat
 default).each (.i ((↑((C.getD ((rpi C (t.items.getD k.fst default) []).getD (k1 : Int).toNat 0).toNat default).each.map Yd0).length : Int) ≠ (↑(List.map Yd0
 (C.getD ((rpi C (t.items.getD k.fst default) []).getD 0 0).toNat default).each).length : Int)) (.o 1 [0, 2] [.a (vI k.snd.fst), .o (.box [vI 0, vI 0, vS (ByteArray.mk #[]),
 .val (.lit (.slice none 0 0)), .val (.lit (.slice none 0 0))]), .s (lb false)]) (.r ((k1 : Int) + 1) (.g [0, 1, 2, 3, 4, 5, 6, 7] (k1 + 1) [.s (li ((↑k1 :
 Int) + 1))])))))))) (.o 0 [0, 1, 2, 3, 4, 5, 6, 7] [])) (by
 intro k1 h; try dsimp only [Yd3, Ydb, Z21] at h ⊢
 obtain ⟨i, m, O⟩ := k
 simp only at *
 have hd := h.2.2.2.2.2.2.1
 have H := h.2.2.2.2.2.2.2.2.2
 have hA := h.2.2.1
 have h00 := h.2.2.2.1
 have g1 := @Yqp C (t.items.getD i default) k1
 have g3 : (rpX C (t.items.getD i default)).length <= k1 -> rqB C (t.items.getD i default) = true := fun a => Y1ie h00 a hA
 have g4 : k1 < (rpX C (t.items.getD i default)).length -> ¬ ((C.getD ((rpX C (t.items.getD i default)).getD k1 0).toNat default).each.length : Int) = ((C.getD ((rpX C (t.items.getD i default)).getD 0 0).toNat default).each.length : Int) -> Ydy t.items C (q - 1) [] = (O, false, m) := fun a b => by rw [H, Ynl h.2.2.2.2.1 hd, Y1i9 a b]; rfl
 have g5 : k1 < (rpX C (t.items.getD i default)).length -> ((C.getD ((rpX C (t.items.getD i default)).getD k1 0).toNat default).each.length : Int) = ((C.getD ((rpX C (t.items.getD i default)).getD 0 0).toNat default).each.length : Int) -> rqA C ((rpX C (t.items.getD i default)).take (k1 + 1)) (lnI C ((rpX C (t.items.getD i default)).getD 0 default)) = true := fun a b => Y1bf a hA b
 with_reducible repeat' (first | apply And.intro | exact zR | exact ih | (intro) | apply Ze | apply Z4 | apply Z6 | apply Z1 | apply Z14)
 all_goals ((try simp only [std, inj] at *); with_reducible and_intros)
 all_goals try with_reducible first | apply Ze | apply Z4 | apply Z6 | apply Z1 | apply Z14 | apply ih
 all_goals try first | exact zw
 all_goals (try simp only [Bool.not_eq_true', Bool.not_eq_false', decide_eq_false_iff_not, decide_eq_true_eq, Decidable.not_not] at *)
 all_goals (try simp only [rpX, rqN, dfI] at *)
 all_goals (try first | exact hd | exact H | omega | exact g3 (by omega) | exact g5 (by omega) (by assumption) | (have := g1 (by omega); omega))
 all_goals (try (rw [g4 (by omega) (by assumption)]; first | done | rfl)))
theorem Z88 (t : YS) (C : List YC) (q : Int) (h : 0 <= q /\ q <= 2000 /\ wY t <= 1000000000 /\ C.length <= 1000000000) (hC : ∀ (z : YC), z ∈ C -> mxP z <=
 1000000000) (ih : ∀ (z : YS), z ∈ t.items -> ∀ (C : List YC) (q : Int), 0 <= q /\ q <= 2000 /\ wY z <= 1000000000 /\ C.length <= 1000000000 -> (∀ (z : YC), z ∈ C -> mxP z <=
 1000000000) -> OK (Z7 z C q)) : Lp.Sem Tryz.prog (Ydg Tryz.f45 0) (Z22 t C q) := Ydr (fun k => .z Ycz t.items (.i ((k.fst : Int) < (↑(List.map Ycz
 t.items).length : Int)) (.x (k.fst : Int) (t.items.map Ycz) (Yda (t.items.getD k.fst default)) (.r ((k.fst : Int) + 1) (.z Ycz t.items (.i ((k.fst : Int) + 1 =
 (↑(t.items.map Ycz).length : Int)) (.y true (.d [.ptr, .rd, .rd] (Z7 (t.items.getD k.fst default) C k.snd.fst) (.b (!(bli (t.items.getD k.fst default) C
 k.snd.fst).snd.fst) (.o 1 [0, 2] [.a (vI (bli (t.items.getD k.fst default) C k.snd.fst).snd.snd), .o (.box [vI 0, vI 0, vS (ByteArray.mk #[]), .val (.lit (.slice none
 0 0)), .val (.lit (.slice none 0 0))]), .s (lb false)]) (.p (((k.snd.snd.map Ycz).length + 1) * 80 <= 140737488355328) (.r ((k.fst : Int) + 1) (.g [0, 1, 2, 3,
 4, 12] (k.fst + 1, (bli (t.items.getD k.fst default) C k.snd.fst).snd.snd, k.snd.snd ++ [(bli (t.items.getD k.fst default) C k.snd.fst).fst]) [.s (li ((k.fst : Int) + 1)), .a (vI
 (bli (t.items.getD k.fst default) C k.snd.fst).snd.snd), .o (.arr true 5 (k.snd.snd.map Ycz ++ [Yda (bli (t.items.getD k.fst default) C k.snd.fst).fst]))])))))) (.r
 ((k.fst : Int) + 1) (.x ((k.fst : Int) + 1) (t.items.map Ycz) (Yda (t.items.getD (k.fst + 1) default)) (.c [.rd] (Z1 (t.items.getD (k.fst + 1) default)) (.b
 (!Yd5 (t.items.getD (k.fst + 1) default)) (.d [.ptr, .rd, .rd] (Z7 (t.items.getD k.fst default) C k.snd.fst) (.b (!(bli (t.items.getD k.fst default) C
 k.snd.fst).snd.fst) (.o 1 [0, 2] [.a (vI (bli (t.items.getD k.fst default) C k.snd.fst).snd.snd), .o (.box [vI 0, vI 0, vS (ByteArray.mk #[]), .val (.lit (.slice none
 0 0)), .val (.lit (.slice none 0 0))]), .s (lb false)]) (.p (((k.snd.snd.map Ycz).length + 1) * 80 <= 140737488355328) (.r ((k.fst : Int) + 1) (.g [0, 1, 2, 3,
 4, 12] (k.fst + 1, (bli (t.items.getD k.fst default) C k.snd.fst).snd.snd, k.snd.snd ++ [(bli (t.items.getD k.fst default) C k.snd.fst).fst]) [.s (li ((k.fst : Int) + 1)), .a (vI
 (bli (t.items.getD k.fst default) C k.snd.fst).snd.snd), .o (.arr true 5 (k.snd.snd.map Ycz ++ [Yda (bli (t.items.getD k.fst default) C k.snd.fst).fst]))]))))) (.r
 ((k.fst : Int) + 1) (.d [.rd, .rd, .own true 1] (Z1m (t.items.getD k.fst default) C []) (.z Yd2 (rpi C (t.items.getD k.fst default) []) (.i ((↑((rpi C
 (t.items.getD k.fst default) []).map Yd2).length : Int) = 0) (.o 1 [0, 2] [.a (vI k.snd.fst), .o (.box [vI 0, vI 0, vS (ByteArray.mk #[]), .val (.lit (.slice none 0 0)),
 .val (.lit (.slice none 0 0))]), .s (lb false)]) (.p ((0 : Int) <= 0 /\ 0 < ((rpi C (t.items.getD k.fst default) []).map Yd2).length) (.w (.cells (Yd2 ((rpi C
 (t.items.getD k.fst default) []).getD 0 default))) (.p (((rpi C (t.items.getD k.fst default) []).map Yd2)[0]? = some [cI ((rpi C (t.items.getD k.fst default) []).getD 0 0)])
 (.x ((rpi C (t.items.getD k.fst default) []).getD 0 0) (C.map Yd0) (Ydj (C.getD ((rpi C (t.items.getD k.fst default) []).getD 0 0).toNat default)) (.z Yd0
 (C.getD ((rpi C (t.items.getD k.fst default) []).getD 0 0).toNat default).each (.z Yd2 (rpi C (t.items.getD k.fst default) []) (.l (Z21 t C q k) (Z87 t C q h
 hC ih k) [0, 1, 2, 3, 6, 8, 4, 5] [.s (li 0)] 0 (.t (.l (Z20 t C q k) (Z86 t C q h hC ih k) [0, 1, 2, 3, 4, 5, 6, 7] [.s (li 0), .a (vI k.snd.fst), .o (.arr
 true 5 (k.snd.snd.map Ycz))] 0 (.t (.r ((k.fst : Int) + 1 + 1) (.g [0, 1, 2, 3, 4, 5] (k.fst + 1 + 1, (iR C (t.items.getD k.fst default) k.snd.fst k.snd.snd).snd.snd,
 (iR C (t.items.getD k.fst default) k.snd.fst k.snd.snd).fst) [.s (li ((k.fst : Int) + 1 + 1)), .a (vI (iR C (t.items.getD k.fst default) k.snd.fst k.snd.snd).snd.snd), .o (.arr
 true 5 ((iR C (t.items.getD k.fst default) k.snd.fst k.snd.snd).fst.map Ycz))])) (.t (.o 1 [0, 1] [.a (vI (Ydy t.items C (q - 1) []).snd.snd), .o (.box [vI 0, vI 0, vS
 (mkS []), .val (.lit (.slice none 0 0)), .val (.lit (.slice none 0 0))]), .s (lb false)]) .q))) (.t (.o 1 [0, 1] [.a (vI (Ydy t.items C (q - 1)
 []).snd.snd), .o (.box [vI 0, vI 0, vS (mkS []), .val (.lit (.slice none 0 0)), .val (.lit (.slice none 0 0))]), .s (lb false)]) .q)))))))))))))))))))))
 (.o 0 [0, 2, 3, 4, 5] [.a (vI k.snd.fst), .o (.arr true 5 (k.snd.snd.map Ycz))]))) (by
 intro k h; try dsimp only [Yd3, Ydb, Z22, Z20, Z21] at h ⊢
 obtain ⟨i, m, O⟩ := k
 simp only at *
 have H := h.2.2.1
 have p1 : i < t.items.length -> (t.items.length <= i + 1 ∨ Yd5 (t.items.getD (i + 1) default) = false) -> (bli (t.items.getD i default) C m).2.1 = true -> Ydy (t.items.drop i) C m O = Ydy (t.items.drop (i + 1)) C (bli (t.items.getD i default) C m).2.2 (O ++ [(bli (t.items.getD i default) C m).1]) := fun a b c => by rw [Yui a b, if_pos c]
 have p2 : i < t.items.length -> (t.items.length <= i + 1 ∨ Yd5 (t.items.getD (i + 1) default) = false) -> (bli (t.items.getD i default) C m).2.1 = false -> Ydy (t.items.drop i) C m O = (O, false, (bli (t.items.getD i default) C m).2.2) := fun a b c => by rw [Yui a b, if_neg (by rw [c]; decide)]
 have d1 : i + 1 < t.items.length -> Yd5 (t.items.getD (i + 1) default) = true -> (iR C (t.items.getD i default) m O).2.1 = true -> Ydy (t.items.drop i) C m O = Ydy (t.items.drop (i + 1 + 1)) C (iR C (t.items.getD i default) m O).2.2 (iR C (t.items.getD i default) m O).1 := fun a b c => by rw [Ynl a b, if_pos c]
 have d3 : i + 1 < t.items.length -> Yd5 (t.items.getD (i + 1) default) = true -> (rpX C (t.items.getD i default)).length = 0 -> Ydy (t.items.drop i) C m O = (O, false, m) := fun a b c => by
  have e : iR C (t.items.getD i default) m O = (O, false, m) := by unfold iR rqB; rw [c]; rfl
  rw [Ynl a b, e]; rfl
 have e1 : t.items.length <= i -> Ydy (t.items.drop i) C m O = (O, true, m) := fun a => Y1bt a
 have g4 := Yrq (t.items.getD i default) C m
 have g6 : 0 <= m -> (iR C (t.items.getD i default) m O).2.1 = true -> 0 <= (iR C (t.items.getD i default) m O).2.2 /\ ((iR C (t.items.getD i default) m O).1.length : Int) + (iR C (t.items.getD i default) m O).2.2 <= O.length + m := fun a b => Y1kq C _ m O a b
 have g8 := @Yhj t i
 have g9 := Y156 C (t.items.getD i default) []
 have g10 := Yrd (t.items.getD i default)
 have g11 := fun h : 0 < (rpX C (t.items.getD i default)).length => Yqp h
 have g12 : iI C (t.items.getD i default) 0 m O = (O, true, m) := rfl
 have g13 := fun h : 0 < (rpX C (t.items.getD i default)).length => Y1af hC h
 with_reducible repeat' (first | apply And.intro | exact zR | exact ih | (intro) | apply Ze | apply Z4 | apply Z6 | apply Z1 | apply Z14 | apply ih)
 all_goals ((try simp only [std, inj] at *); with_reducible and_intros)
 all_goals try first | with_reducible (first | apply Ze | apply Z4 | apply Z6 | apply Z1 | apply Z14 | apply ih) | (simp only [<- List.map_append]; with_reducible first | apply Ze | apply Z4 | apply Z6 | apply Z1 | apply Z14 | apply ih)
 all_goals try first | exact zw
 all_goals (try simp only [Bool.not_eq_true', Bool.not_eq_false', decide_eq_false_iff_not, decide_eq_true_eq, Decidable.not_not] at *)
 all_goals (try simp only [rpX, rqN, dfI] at *)
 all_goals (try first | exact Yd6 (by omega) | exact hC _ (by assumption) | exact Yd4 (C := Ycz) _ _ | exact (Yqp (by show 0 < (rpi C (t.items.getD i default) []).length; omega)).1 | (show rqA C [] _ = true; rfl) | (show (_ : Bool) = true; exact (rfl : (iI C (t.items.getD i default) 0 m O).2.1 = true)) | exact (rfl : m = (iI C (t.items.getD i default) 0 m O).2.2) | exact (rfl : O = (iI C (t.items.getD i default) 0 m O).1) | exact (rfl : O.map Ycz = List.map Ycz (iI C (t.items.getD i default) 0 m O).1) | (have := g8 (by omega); simp only [List.length_nil] at *; omega))
 all_goals (try first | (rw [H, p1 (by omega) (by first | exact Or.inl (by omega) | exact Or.inr (by assumption)) (by assumption)]) | (rw [H, p2 (by omega) (by first | exact Or.inl (by omega) | exact Or.inr (by assumption)) (by assumption)]) | (rw [H, d1 (by omega) (by assumption) (by assumption)]) | (rw [H, d3 (by omega) (by assumption) (by omega)]) | (rw [H, e1 (by omega)]))
 all_goals (try first | (have := g4 (by omega) (by assumption); first | omega | (simp only [List.length_singleton]; omega)) | (have := g6 (by omega) (by assumption); omega)))
theorem Zam (t : YS) (C : List YC) (q : Int) (h : 0 <= q /\ q <= 2000 /\ wY t <= 1000000000 /\ C.length <= 1000000000) (hC : ∀ z ∈ C, mxP z <= 1000000000) (ih : ∀ z ∈
 t.items, ∀ (C : List YC) (q : Int) (h : 0 <= q /\ q <= 2000 /\ wY z <= 1000000000 /\ C.length <= 1000000000) (hC : ∀ z ∈ C, mxP z <= 1000000000), Z7 z C q)  : Z7 t C
 q := Yde Tryz.call45 Tryz.func45 (.c [.rd, .rd] (Z9x C t) (.i (0 <= if t.kind = 1 then fnd C t else (-1 : Int)) (.x (if t.kind = 1 then fnd C t else (-1 : Int)) (List.map
 Yd0 C) (Ydj (C.getD (if t.kind = 1 then fnd C t else (-1 : Int)).toNat default)) (.i ((C.getD (if t.kind = 1 then fnd C t else (-1 : Int)).toNat default).depth ≠ 0) (.w
 (.ghost (.nilbox 2 3 true 1)) (.w (.ghost (.nilbox 2 4 true 5)) (.f [3, 4] [.box [vI q], .arr true 1 [], .arr true 5 []] (.tup [.agg [vI 0, vI 0, vS (ByteArray.mk #[]),
 .ref 1, .ref 2], lb false])))) (.x (if t.kind = 1 then fnd C t else (-1 : Int)) (C.map Yd0) (Ydj (C.getD (if t.kind = 1 then fnd C t else (-1 : Int)).toNat
 default)) (.d [.rd, .rd, .ptr] (Zq (C.getD (if t.kind = 1 then fnd C t else (-1 : Int)).toNat default).form 1 0) (.b (!(Yed (C.getD (if t.kind = 1 then fnd C t else (-1 :
 Int)).toNat default).form 1 0).fst) (.w (.ghost (.nilbox 2 3 true 1)) (.w (.ghost (.nilbox 2 4 true 5)) (.f [4, 5] [.box [vI q], .arr true 1 [], .arr true 5 []] (.tup
 [.agg [vI 0, vI 0, vS (ByteArray.mk #[]), .ref 1, .ref 2], lb false])))) (.w (.draw [(8, [0])]) (.r (q - (Yed (C.getD (if t.kind = 1 then fnd C t else (-1 : Int)).toNat
 default).form 1 0).snd) (.w (.draw [(11, [2])]) (.x (if t.kind = 1 then fnd C t else (-1 : Int)) (C.map Yd0) (Ydj (C.getD (if t.kind = 1 then fnd C t else (-1 :
 Int)).toNat default)) (.d [.rd] (Zr (C.getD (if t.kind = 1 then fnd C t else (-1 : Int)).toNat default).form) (.f [6, 7] [.box [vI (q - (Yed (C.getD (if t.kind = 1 then
 fnd C t else (-1 : Int)).toNat default).form 1 0).snd)], .arr true 1 ((C.getD (if t.kind = 1 then fnd C t else (-1 : Int)).toNat default).form.scopes.map Yd2), .arr true
 5 ((C.getD (if t.kind = 1 then fnd C t else (-1 : Int)).toNat default).form.items.map Ycz)] (.tup [.agg [vI (C.getD (if t.kind = 1 then fnd C t else (-1 : Int)).toNat
 default).form.kind, vI (C.getD (if t.kind = 1 then fnd C t else (-1 : Int)).toNat default).form.number, vS (C.getD (if t.kind = 1 then fnd C t else (-1 : Int)).toNat
 default).form.text, .ref 1, .ref 2], lb (decide (0 <= q - (Yed (C.getD (if t.kind = 1 then fnd C t else (-1 : Int)).toNat default).form 1 0).snd))])))))))))))) (.r (q - 1) (.i
 (q - (1 : Int) < 0) (.w (.ghost (.nilbox 2 3 true 1)) (.w (.ghost (.nilbox 2 4 true 5)) (.f [3, 4] [.box [vI (q - 1)], .arr true 1 [], .arr true 5 []] (.tup [.agg [vI 0,
 vI 0, vS (ByteArray.mk #[]), .ref 1, .ref 2], lb false])))) (.w (.draw [(11, [19])]) (.d [.rd] (Z1p t.scopes) (.w (.ghost (.nilbox 19 4 true 5)) (.l (Z22 t C
 q) (Z88 t C q h hC ih) [0, 1, 2, 19, 11, 20] [.s (li 0), .a (vI (q - 1)), .o (.arr true 5 [])] (0, q - 1, []) (.t (.f [3, 4] [.box [vI (Ydy t.items C (q - 1)
 []).snd.snd], .arr true 1 (t.scopes.map Yd2), .arr true 5 ((Ydy t.items C (q - 1) []).fst.map Ycz)] (.tup [.agg [vI t.kind, vI t.number, vS t.text, .ref
 1, .ref 2], lb true])) (.t (.w (.ghost (.nilbox 1 3 true 1)) (.w (.ghost (.nilbox 1 4 true 5)) (.f [2, 3] [.box [vI (Ydy t.items C (q - 1) []).snd.snd], .arr true 1 [],
 .arr true 5 []] (.tup [.agg [vI 0, vI 0, vS (mkS []), .ref 1, .ref 2], lb false])))) .q)))))))))) (by
 dsimp only [Yd3, Z7, Ydb, Z22]
 have g2 := Yn8 C t
 have g4 := Yfq t
 with_reducible repeat' (first | apply And.intro | exact zR | exact ih | (intro) | apply Ze | apply Z4 | apply Z6 | apply Z1 | apply Z14)
 all_goals ((try simp only [std, inj] at *); with_reducible and_intros)
 all_goals try with_reducible first | apply Ze | apply Z4 | apply Z6 | apply Z1 | apply Z14 | apply ih
 all_goals try first | exact zw
 all_goals (try simp only [Bool.not_eq_true', Bool.not_eq_false', decide_eq_false_iff_not, decide_eq_true_eq, Decidable.not_not] at *)
 all_goals (try (have hk := Y1fz (by assumption : 0 <= if t.kind = 1 then fnd C t else -1); simp only [if_pos hk.1] at *))
 all_goals (try first | exact hC _ (by assumption) | exact Y1fe hC (by omega) | (have := Y1h7 _ (by assumption : (Yed (C.getD (fnd C t).toNat default).form 1 0).1 = true); omega) | (rw [Y1i4 (by omega) (by omega) (by assumption)]) | (rw [Y1hs (by omega) (by omega) (by assumption) (by assumption)]) | (rw [Y1hd (by omega) (by omega) (by assumption) (by assumption)]) | (rw [Y1j5 (by omega) (by omega)]) | (rw [Y1hn (by omega) (by omega) (by assumption)]) | (rw [Y1il (by omega) (by omega) (by assumption)]))
 all_goals (try first | rfl | (dsimp only; omega) | (simp only [List.length_nil]; omega)))
theorem Z9f (t : YS) : ∀ (C : List YC) (q : Int) (h : 0 <= q /\ q <= 2000 /\ wY t <= 1000000000 /\ C.length <= 1000000000) (hC : ∀ z ∈ C, mxP z <= 1000000000), Z7 t C q := YS.ind (P := fun t => ∀ (C : List YC) (q : Int) (h : 0 <= q /\ q <= 2000 /\ wY t <= 1000000000 /\ C.length <= 1000000000) (hC : ∀ z ∈ C, mxP z <= 1000000000), Z7 t C q) (fun t ih C q h hC => Zam t C q h hC ih) t
abbrev Z6l (t : YS) (C : List YC) : Ct := ⟨12, [], [Ydl t, ll (C.map Yd0)], Yg5 (Yo2 t C), .tup [Yg6 (Yo2 t C) 0, lb (Ylt t C)]⟩
theorem Z5x (t : YS) (C : List YC) (h : wY t <= 1000000000 /\ C.length <= 1000000000) (hC : ∀ z ∈ C, mxP z <= 1000000000)  : Z6l t C := Yde Tryz.call12 Tryz.func12 (.c
 [.rd] (Z1t t) (.b (!Ydk t) (.y true (.w (.ghost (.nilbox 1 3 true 1)) (.w (.ghost (.nilbox 1 4 true 5)) (.f [2, 3] [.arr true 1 [], .arr true 5 []] (.tup [.agg
 [vI 0, vI 0, vS (ByteArray.mk #[]), .ref 0, .ref 1], lb false]))))) (.c [.rd] (Za5 t) (.b (!Yj2 t) (.w (.ghost (.nilbox 1 3 true 1)) (.w (.ghost (.nilbox 1 4 true 5))
 (.f [2, 3] [.arr true 1 [], .arr true 5 []] (.tup [.agg [vI 0, vI 0, vS (ByteArray.mk #[]), .ref 0, .ref 1], lb false])))) (.d [.ptr, .rd, .rd] (Z7 t C 2000)
 (.b (!(bli t C 2000).snd.fst) (.y true (.w (.ghost (.nilbox 1 3 true 1)) (.w (.ghost (.nilbox 1 4 true 5)) (.f [7, 8] [.arr true 1 [], .arr true 5 []] (.tup [.agg [vI 0,
 vI 0, vS (ByteArray.mk #[]), .ref 0, .ref 1], lb false]))))) (.c [.rd] (Z1t (bli t C 2000).fst) (.b (!Ydk (bli t C 2000).fst) (.w (.ghost (.nilbox 1 3 true 1)) (.w
 (.ghost (.nilbox 1 4 true 5)) (.f [7, 8] [.arr true 1 [], .arr true 5 []] (.tup [.agg [vI 0, vI 0, vS (ByteArray.mk #[]), .ref 0, .ref 1], lb false])))) (.f [4, 5]
 [.arr true 1 ((bli t C 2000).fst.scopes.map Yd2), .arr true 5 ((bli t C 2000).fst.items.map Ycz)] (.tup [.agg [vI (bli t C 2000).fst.kind, vI (bli t C
 2000).fst.number, vS (bli t C 2000).fst.text, .ref 0, .ref 1], lb true])))))))))) (by
 dsimp only [Yd3, Z6l]
 have g1 := @Y1cx t C
 have g2 : Ylt t C = true -> Yo2 t C = (bld t C 2000).1 := fun h => if_pos h
 have g3 : Ylt t C = false -> Yo2 t C = zY := fun h => by unfold Yo2; rw [h]; rfl
 have g4 : zY.kind = 0 /\ zY.number = 0 /\ zY.text = mkS [] /\ zY.scopes = [] /\ zY.items = [] := ⟨rfl, rfl, rfl, rfl, rfl⟩
 have g5 : Ylt t C = (Ydk t && Yj2 t && (bld t C 2000).2.1 && Ydk (bld t C 2000).1) := rfl
 with_reducible repeat' (first | apply And.intro | exact zR | (intro) | apply Z9f)
 all_goals ((try simp only [std, inj] at *); with_reducible and_intros)
 all_goals try with_reducible first | apply Z9f
 all_goals try first | exact zw | grind [Yd7, Yd8, Yd4])
theorem Y10m {H : YS -> Bool} {A : List YS -> Int} : ∀ (l : List YS), (∀ x ∈ l, ∀ d, ∀ z ∈ nm H A x d, wY z.form = 0 /\ z.each = []) -> ∀ i a d, ∀ z ∈ nms H A l i a d, wY z.form = 0 /\ z.each = []
 | [], _, i, a, d, z, hz => by simp [nms] at hz
 | x :: r, h, i, a, d, z, hz => by
  simp only [nms, List.mem_append] at hz
  rcases hz with hz | hz
  ·split at hz
   ·cases hz
   ·exact h x List.mem_cons_self _ z hz
  ·exact Y10m r (fun y hy => h y (List.mem_cons_of_mem _ hy)) _ _ _ z hz
theorem Yww {H : YS -> Bool} {A : List YS -> Int} : ∀ (p : YS) (d : Int), ∀ z ∈ nm H A p d, wY z.form = 0 /\ z.each = [] := by
 refine YS.ind fun p ih d z hz => ?_
 rw [Ygm] at hz
 split at hz
 ·split at hz
  ·cases hz
  ·simp only [List.mem_singleton] at hz; subst hz; exact ⟨rfl, rfl⟩
 ·split at hz
  ·exact Y10m p.items ih _ _ _ z hz
  ·cases hz
theorem Y1b6 {g : YS -> Option (List YC)} : ∀ (L : List YS) (R : List (List YC)), mtr g L = some R -> R.length = L.length /\ ∀ c ∈ R, ∃ f ∈ L, g f = some c
 | [], R, e => by simp only [mtr, Option.some.injEq] at e; subst e; simp
 | f :: r, R, e => by
  simp only [mtr] at e
  split at e
  ·cases e
  ·rename_i c hc
   split at e
   ·cases e
   ·rename_i R' hR
    simp only [Option.some.injEq] at e; subst e
    have ih := Y1b6 r R' hR
    refine ⟨by simp [ih.1], fun d hd => ?_⟩
    rcases List.mem_cons.1 hd with rfl | hd
    ·exact ⟨f, List.mem_cons_self, hc⟩
    ·obtain ⟨g', h1, h2⟩ := ih.2 d hd
     exact ⟨g', List.mem_cons_of_mem _ h1, h2⟩
theorem Y13v : mxP (default : YC) = 0 := rfl
theorem Y1lc {V : List YC} {R : List (List YC)} {m : Nat} (hV : ∀ z ∈ V, wY z.form = 0 /\ z.each = []) (hl : R.length <= m) (hR : ∀ c ∈ R, ∀ z ∈ c, mxP z <= m) : ∀ z ∈ rp V R, mxP z <= m := by
 intro z hz
 simp only [rp, List.mem_map, List.mem_range] at hz
 obtain ⟨i, hi, rfl⟩ := hz
 have h1 := hV _ (Yd6 hi)
 rw [Yuz]
 simp only [h1.1, h1.2, List.nil_append, List.length_map]
 have h2 : Yoy (R.map fun c => c.getD i default) <= m := Y14w fun y hy => by
  obtain ⟨c, hc, rfl⟩ := List.mem_map.1 hy
  rcases Nat.lt_or_ge i c.length with h3 | h3
  ·exact hR c hc _ (Yd6 h3)
  ·have e : c.getD i default = default := by simp [h3]
   rw [e, Y13v]; omega
 omega
theorem Y1ia {m : Nat} {fs : List YS} (h : ∀ f ∈ fs, wY f <= m) (k : Nat) : wY (fs.getD k default) <= m := by
 rcases Nat.lt_or_ge k fs.length with h3 | h3
 ·exact h _ (Yd6 h3)
 ·have e : fs.getD k default = default := by simp [h3]
  have e2 : wY (default : YS) = 0 := rfl
  rw [e, e2]; omega
theorem Y18g {M : YS -> YS -> Bool} {H : YS -> Bool} {A : List YS -> Int} {m : Nat} : ∀ l : List YS, (∀ x ∈ l, ∀ f c, mt M H A x f = some c -> wY f <= m -> ∀ z ∈ c, mxP z <= m) -> ∀ i a k fs c, mts M H A l i a k fs = some c -> fs.length <= m -> (∀ f ∈ fs, wY f <= m) -> ∀ z ∈ c, mxP z <= m
 | [], _, i, a, k, fs, c, e, _, _, z, hz => by simp only [mts, Option.some.injEq] at e; subst e; cases hz
 | x :: r, h, i, a, k, fs, c, e, hl, hf, z, hz => by
  have ih := Y18g r (fun y hy => h y (List.mem_cons_of_mem _ hy)) (i + 1) a k
  have hd : ∀ n, (fs.drop n).length <= m /\ ∀ f ∈ fs.drop n, wY f <= m := fun n => ⟨by rw [List.length_drop]; omega, fun f hm => hf f (List.mem_of_mem_drop hm)⟩
  simp only [mts] at e
  split at e
  ·exact ih _ _ e hl hf z hz
  ·split at e
   ·split at e
    ·cases e
    ·rename_i R hR
     split at e
     ·cases e
     ·rename_i c' hc
      simp only [Option.some.injEq] at e; subst e
      obtain ⟨r1, r2⟩ := Y1b6 _ _ hR
      rcases List.mem_append.1 hz with hz | hz
      ·refine Y1lc (fun z hz => Yww x 1 z hz) ?_ (fun c hc z hz => ?_) z hz
       ·rw [r1, List.length_take]; omega
       ·obtain ⟨f', h1, h2⟩ := r2 c hc
        exact h x List.mem_cons_self f' c h2 (hf f' (List.mem_of_mem_take h1)) z hz
      ·exact ih _ _ hc (hd k).1 (hd k).2 z hz
   ·split at e
    ·cases e
    ·rename_i c1 h1
     split at e
     ·cases e
     ·rename_i c' hc
      simp only [Option.some.injEq] at e; subst e
      rcases List.mem_append.1 hz with hz | hz
      ·exact h x List.mem_cons_self _ _ h1 (Y1ia hf 0) z hz
      ·exact ih _ _ hc (hd 1).1 (hd 1).2 z hz
theorem Y1l4 {M : YS -> YS -> Bool} {H : YS -> Bool} {A : List YS -> Int} {m : Nat} : ∀ (p f : YS) (c : List YC), mt M H A p f = some c -> wY f <= m -> ∀ z ∈ c, mxP z <= m := by
 refine YS.ind fun p ih f c e hm z hz => ?_
 rw [Yg8] at e
 split at e
 ·split at e
  ·simp only [Option.some.injEq] at e; subst e; cases hz
  ·split at e
   ·split at e
    ·simp only [Option.some.injEq] at e; subst e; cases hz
    ·cases e
   ·simp only [Option.some.injEq] at e; subst e
    simp only [List.mem_singleton] at hz; subst hz
    have e2 : mxP (Yje p f) = max (wY f) (max 0 0) := rfl
    rw [e2]; omega
 ·split at e
  ·split at e
   ·have h1 := Yfq f
    exact Y18g p.items ih _ _ _ _ _ e (by omega) (fun g hg => by have := Yew wY hg; omega) z hz
   ·cases e
  ·split at e
   ·simp only [Option.some.injEq] at e; subst e; cases hz
   ·cases e
def Yic (s : YS) : List YS := if Ydk s = true then Ydu s [] else []
theorem Y1fx (V : List YC) (R : List (List YC)) : (rp V R).map YC.name = V.map YC.name := by
 apply List.ext_getElem
 ·simp [rp]
 ·intro i h1 h2
  simp only [rp, List.map_map, List.getElem_map, List.getElem_range, Function.comp]
  have : i < V.length := by simpa using h2
  simp [this]
theorem Y10r {M : YS -> YS -> Bool} {H : YS -> Bool} {A : List YS -> Int} : ∀ (l : List YS), (∀ x ∈ l, ∀ f c, mt M H A x f = some c -> c.map YC.name = (nm H A x 0).map YC.name) -> ∀ i a m fs c, mts M H A l i a m fs = some c -> c.map YC.name = (nms H A l i a 0).map YC.name
 | [], _, i, a, m, fs, c, e => by simp only [mts, Option.some.injEq] at e; subst e; simp [nms]
 | x :: r, h, i, a, m, fs, c, e => by
  have ih := Y10r r (fun y hy => h y (List.mem_cons_of_mem _ hy)) (i + 1) a m
  simp only [mts] at e
  simp only [nms]
  split at e
  ·rename_i hi; rw [if_pos hi]; simpa using ih _ _ e
  ·rename_i hi
   rw [if_neg hi]
   split at e
   ·rename_i hi2
    rw [if_pos hi2]
    split at e
    ·cases e
    ·split at e
     ·cases e
     ·rename_i c' hc
      simp only [Option.some.injEq] at e; subst e
      rw [List.map_append, List.map_append, Y1fx, ih _ _ hc]; rfl
   ·rename_i hi2
    rw [if_neg hi2]
    split at e
    ·cases e
    ·rename_i c1 h1
     split at e
     ·cases e
     ·rename_i c' hc
      simp only [Option.some.injEq] at e; subst e
      rw [List.map_append, List.map_append, h x List.mem_cons_self _ _ h1, ih _ _ hc]
theorem Y13z {M : YS -> YS -> Bool} {H : YS -> Bool} {A : List YS -> Int} : ∀ (p f : YS) (c : List YC), mt M H A p f = some c -> c.map YC.name = (nm H A p 0).map YC.name := by
 refine YS.ind fun p ih f c e => ?_
 rw [Yg8] at e
 rw [Ygm]
 split at e
 ·rename_i hk
  rw [if_pos hk]
  split at e
  ·rename_i hu; simp only [Option.some.injEq] at e; subst e; rw [if_pos (.inl hu)]
  ·rename_i hu
   split at e
   ·rename_i hh
    split at e
    ·simp only [Option.some.injEq] at e; subst e; rw [if_pos (.inr hh)]
    ·cases e
   ·rename_i hh
    simp only [Option.some.injEq] at e; subst e
    rw [if_neg (by simp [hu, hh])]; rfl
 ·rename_i hk
  rw [if_neg hk]
  split at e
  ·rename_i h0
   rw [if_pos h0]
   split at e
   ·exact Y10r p.items ih _ _ _ _ _ e
   ·cases e
  ·rename_i h0
   rw [if_neg h0]
   split at e
   ·simp only [Option.some.injEq] at e; subst e; rfl
   ·cases e
theorem Y1e5 (H : YS -> Bool) (A : List YS -> Int) (p : YS) : (nm H A p 1).map YC.name = (nm H A p 0).map YC.name := by
 have := Y11f H A p 0
 rw [show (0 : Int) + 1 = 1 from rfl] at this
 rw [this, List.map_map]; rfl
theorem Y14c {l : List YS} (h : okS l = true) {k : Nat} (hk : k < l.length) : Yd5 (l.getD k default) = true ↔ (k : Int) = aS l := by
 have ha : aS l = atS l := if_pos h
 rw [ha]
 rcases Yog l l.length (Nat.le_refl _) h with ⟨h1, h2⟩ | ⟨m, h1, h2, h3, h4, h5⟩
 ·have e : atS l = -1 := h1
  rw [e, h2 k hk]; constructor
  ·intro h; cases h
  ·intro h; omega
 ·have e : atS l = m := h3
  rw [e]
  by_cases hm : k = m
  ·subst hm; rw [h4]; simp
  ·rw [h5 k hk hm]; constructor
   ·intro h; cases h
   ·intro h; omega
theorem Y1k8 {l : List YS} (h : okS l = true) : aS l < l.length /\ aS l ≠ 0 /\ -1 <= aS l := by
 have ha : aS l = atS l := if_pos h
 rw [ha]
 rcases Yog l l.length (Nat.le_refl _) h with ⟨h1, h2⟩ | ⟨m, h1, h2, h3, h4, h5⟩
 ·have e : atS l = -1 := h1
  omega
 ·have e : atS l = m := h3
  omega
theorem Y15a {H : YS -> Bool} {A : List YS -> Int} {a : Int} : ∀ (l : List YS) (i d : Int) (k : Nat), k < l.length -> i + k ≠ a -> ∀ z ∈ nm H A (l.getD k default) (if i + k + 1 = a then d + 1 else d), z ∈ nms H A l i a d
 | [], i, d, k, h, _ => absurd h (by simp)
 | x :: r, i, d, 0, h, hn => by
  intro z hz
  simp only [nms]
  rw [if_neg (by simpa using hn)]
  exact List.mem_append_left _ (by simpa using hz)
 | x :: r, i, d, k + 1, h, hn => by
  intro z hz
  simp only [nms]
  refine List.mem_append_right _ (Y15a r (i + 1) d k (by simpa using h) (by rw [Int.natCast_add] at hn; omega) z ?_)
  have e : i + 1 + (k : Int) + 1 = i + ((k + 1 : Nat) : Int) + 1 := by omega
  rw [e]; simpa using hz
theorem Yim {p : YS} (h : okY p = true) (hk : p.kind ≠ 0) : p.items = [] := by
 rw [Yj6, Bool.and_eq_true] at h
 have h2 := h.2
 simp only [Yjc, Bool.and_eq_true] at h2
 have h3 := h2.1.1
 simp only [Yjf, Bool.or_eq_true, decide_eq_true_eq] at h3
 refine List.length_eq_zero_iff.1 ?_
 omega
theorem Yzw (x : YS) : Ydo [] x = false := rfl
theorem Y1ji : ∀ (p : YS), good [] p -> (∀ y ∈ nmZ p, Ye3 y = false) -> ∀ d, ∀ y ∈ nmZ p, Yd5 y = false -> ∃ z ∈ nm (Ydo []) aS p d, z.name = y := by
 refine YS.ind fun p ih hg hu d y hy hd => ?_
 by_cases hk : p.kind = 1
 ·have e := Yim hg.1 (by omega)
  rw [Ygk, if_pos hk, e, List.flatMap_nil, List.append_nil, List.mem_singleton] at hy
  subst hy
  have h1 := hu y (by rw [Ygk, if_pos hk]; simp)
  rw [Ygm, if_pos hk, if_neg (by rw [h1, Yzw]; simp)]
  exact ⟨_, List.mem_singleton.2 rfl, rfl⟩
 ·by_cases h0 : p.kind = 0
  ·rw [Ygk, if_neg hk, List.nil_append, List.mem_flatMap] at hy
   obtain ⟨x, hx, hy⟩ := hy
   obtain ⟨k, hlt, e⟩ := List.getElem_of_mem hx
   have ex : p.items.getD k default = x := by simp [hlt, e]
   have hs := Ykx hg h0
   have hi : Yd5 x = false := by
    cases h : Yd5 x with
    | false => rfl
    | true =>
     have hxk : x.kind = 1 := by simp only [Yd5, Bool.and_eq_true, decide_eq_true_eq] at h; exact h.1
     have e1 := Yim (Yhu hg.1 x hx) (by omega)
     rw [Ygk, if_pos hxk, e1, List.flatMap_nil, List.append_nil, List.mem_singleton] at hy
     rw [hy, h] at hd; cases hd
   have hne : (k : Int) ≠ aS p.items := fun e' => by
    have := (Y14c hs hlt).2 e'
    rw [ex, hi] at this; cases this
   have hg' := Yhp hg h0 hlt hne
   rw [ex] at hg'
   obtain ⟨z, hz, e'⟩ := ih x hx hg' (fun w hw => hu w (by rw [Ygk, if_neg hk, List.nil_append]; exact List.mem_flatMap.2 ⟨x, hx, hw⟩)) (if 0 + (k : Int) + 1 = aS p.items then d + 1 else d) y hy hd
   refine ⟨z, ?_, e'⟩
   rw [Ygm, if_neg hk, if_pos h0]
   exact Y15a p.items 0 d k hlt (by omega) z (by rw [ex]; exact hz)
  ·rw [Ygk, if_neg hk, Yim hg.1 h0] at hy
   simp at hy
theorem Y1bh {H : YS -> Bool} {A : List YS -> Int} {a : Int} : ∀ (l : List YS) (i d : Int), ∀ z ∈ nms H A l i a d, ∃ x ∈ l, ∃ e, d <= e /\ z ∈ nm H A x e
 | [], i, d, z, hz => by simp [nms] at hz
 | x :: r, i, d, z, hz => by
  simp only [nms, List.mem_append] at hz
  rcases hz with hz | hz
  ·split at hz
   ·cases hz
   ·exact ⟨x, List.mem_cons_self, _, by split <;> omega, hz⟩
  ·obtain ⟨y, hy, h⟩ := Y1bh r _ _ z hz
   exact ⟨y, List.mem_cons_of_mem _ hy, h⟩
theorem Y167 {H : YS -> Bool} {A : List YS -> Int} : ∀ (p : YS) (d : Int), ∀ z ∈ nm H A p d, z.name ∈ nmZ p /\ d <= z.depth := by
 refine YS.ind fun p ih d z hz => ?_
 rw [Ygm] at hz
 split at hz
 ·rename_i hk
  split at hz
  ·cases hz
  ·rw [List.mem_singleton] at hz; subst hz
   exact ⟨by rw [Ygk, if_pos hk]; exact List.mem_append_left _ (List.mem_singleton.2 rfl), Int.le_refl _⟩
 ·rename_i hk
  split at hz
  ·obtain ⟨x, hx, e, he, h⟩ := Y1bh _ _ _ z hz
   have := ih x hx e z h
   refine ⟨?_, by omega⟩
   rw [Ygk, if_neg hk, List.nil_append]; exact List.mem_flatMap.2 ⟨x, hx, this.1⟩
  ·cases hz
theorem Y1fw {L : List YC} {v : Int} : ∀ t : YS, drv L v t = true -> ∃ y ∈ nmZ t, Yd5 y = false := by
 refine YS.ind fun t ih h => ?_
 rw [Y19n] at h
 split at h
 ·rename_i hk
  rw [Bool.and_eq_true, decide_eq_true_eq] at h
  refine ⟨t, by rw [Ygk, if_pos hk]; simp, ?_⟩
  have := h.1; unfold fnd at this; split at this
  ·rename_i hh; exact hh.1
  ·omega
 ·rename_i hk
  rw [List.any_eq_true] at h
  obtain ⟨x, hx, h⟩ := h
  obtain ⟨y, hy, e⟩ := ih x hx h
  exact ⟨y, by rw [Ygk, if_neg hk, List.nil_append]; exact List.mem_flatMap.2 ⟨x, hx, hy⟩, e⟩
def Ev (C c : List YC) : Prop := ∀ z ∈ c, 0 <= fnd C z.name /\ Ydw C z.name = z
theorem Ev.left {C a b : List YC} (h : Ev C (a ++ b)) : Ev C a := fun z hz => h z (List.mem_append_left _ hz)
theorem Ev.right {C a b : List YC} (h : Ev C (a ++ b)) : Ev C b := fun z hz => h z (List.mem_append_right _ hz)
def Y1lw (s n : YS) : Bool := decide (n.text = s.text) && decide (n.scopes = s.scopes) && Ygq n
theorem Yzh (C : List YC) (s : YS) : Yfz C s = (C.map YC.name).findIdx (Y1lw s) := by
 unfold Yfz; rw [List.findIdx_map]; rfl
theorem Yqg {C C' : List YC} (h : C.map YC.name = C'.map YC.name) (s : YS) : fnd C s = fnd C' s := by
 have h2 : C.length = C'.length := by have := congrArg List.length h; simpa using this
 unfold fnd; rw [Yzh, Yzh, h, h2]
theorem Y197 {C : List YC} {I : List YS} : ∀ m j, j < m -> rep C (I.getD j default) = true -> 0 <= cnN C I m
 | 0, j, h, _ => absurd h (by omega)
 | m + 1, j, h, hr => by
  simp only [cnN]
  split
  ·omega
  ·rename_i hn
   by_cases e : j = m
   ·subst e; exact absurd hr hn
   ·exact Y197 m j (by omega) hr
theorem Y1ao {g : YS -> Option (List YC)} : ∀ (L : List YS) (R : List (List YC)), mtr g L = some R -> R.length = L.length /\ ∀ j, j < L.length -> g (L.getD j default) = some (R.getD j [])
 | [], R, e => by simp only [mtr, Option.some.injEq] at e; subst e; simp
 | f :: r, R, e => by
  simp only [mtr] at e
  split at e
  ·cases e
  ·rename_i c hc
   split at e
   ·cases e
   ·rename_i R' hR
    simp only [Option.some.injEq] at e; subst e
    have ih := Y1ao r R' hR
    refine ⟨by simp [ih.1], fun j hj => ?_⟩
    cases j with
    | zero => simpa using hc
    | succ j => simpa using ih.2 j (by simpa using hj)
def Rb (M : YS -> YS -> Bool) (x : YS) : Prop := ∀ f, okY f = true -> ∀ c, mt M (Ydo []) aS x f = some c -> ∀ C q, Ev C c -> (sizeY f : Int) <= q -> bld x C q = (f, true, q - sizeY f)
def Rn (x : YS) : Prop := (∀ y ∈ nmZ x, Yd5 y = false -> ∃ z ∈ nm (Ydo []) aS x 1, z.name = y) /\ ∃ y ∈ nmZ x, Yd5 y = false
section rounds
variable {M : YS -> YS -> Bool} {x : YS} {C : List YC} {fs : List YS} {R : List (List YC)}
theorem Y1as {V : List YC} {y : YS} (h : ∃ z ∈ V, z.name = y) : ∃ i, i < V.length /\ (V.getD i default).name = y := by
 obtain ⟨z, hz, e⟩ := h
 obtain ⟨i, hi, e2⟩ := List.getElem_of_mem hz
 exact ⟨i, hi, by simp [hi, e2, e]⟩
theorem Ywc (V : List YC) (R : List (List YC)) {i : Nat} (hi : i < V.length) : (rp V R).getD i default = ⟨(V.getD i default).name, (V.getD i default).depth, (V.getD i default).form, (V.getD i default).each ++ R.map fun c => c.getD i default⟩ := by
 unfold rp
 rw [List.getD_eq_getElem?_getD, List.getElem?_map, List.getElem?_range hi]; rfl
theorem Y12m (hn : Rn x) (hE : Ev C (rp (nm (Ydo []) aS x 1) R)) {y : YS} (hy : y ∈ nmZ x) (hd : Yd5 y = false) :
  ∃ i, i < (nm (Ydo []) aS x 1).length /\ ((nm (Ydo []) aS x 1).getD i default).name = y /\ 0 <= fnd C y /\ Ydw C y = (rp (nm (Ydo []) aS x 1) R).getD i default /\ rep C y = true /\ (Ydw C y).each = R.map fun c => c.getD i default := by
 obtain ⟨i, hi, e⟩ := Y1as (hn.1 y hy hd)
 have hm : (rp (nm (Ydo []) aS x 1) R).getD i default ∈ rp (nm (Ydo []) aS x 1) R := Yd6 (by rw [Yh3]; exact hi)
 have h1 := hE _ hm
 have h2 := Ywc (nm (Ydo []) aS x 1) R hi
 have h3 : ((rp (nm (Ydo []) aS x 1) R).getD i default).name = y := by rw [h2]; exact e
 rw [h3] at h1
 have h4 := Y167 x 1 _ (Yd6 hi)
 have h5 := Yww x 1 _ (Yd6 (L := nm (Ydo []) aS x 1) hi)
 refine ⟨i, hi, e, h1.1, h1.2, ?_, ?_⟩
 ·unfold rep
  rw [Bool.and_eq_true, decide_eq_true_eq, decide_eq_true_eq, h1.2, h2]
  exact ⟨h1.1, by show 0 < ((nm (Ydo []) aS x 1).getD i default).depth; omega⟩
 ·rw [h1.2, h2, h5.2, List.nil_append]
theorem Ytm {y : YS} (h : 0 <= fnd C y) : Yd5 y = false := by
 unfold fnd at h; split at h
 ·rename_i hh; exact hh.1
 ·omega
theorem Y133 {y : YS} (h : y ∈ Ydu x []) : y ∈ nmZ x := by
 rw [Ytd] at h
 rcases (Yr3 (nmZ x) []).1 y h with h | h
 ·cases h
 ·exact h
theorem Y115 {y : YS} (h : y ∈ nmZ x) : ∃ w ∈ Ydu x [], w.text = y.text /\ w.scopes = y.scopes /\ fnd C w = fnd C y := by
 obtain ⟨w, hw, e1, e2⟩ := (Yr3 (nmZ x) []).2 y (.inr h)
 rw [<- Ytd] at hw
 exact ⟨w, hw, e1, e2, Y12d e1 e2 (Ypg x w (Y133 hw)) (Ypg x y h)⟩
theorem Y1e7 (hn : Rn x) (hE : Ev C (rp (nm (Ydo []) aS x 1) R)) : cnB C x = true /\ bN C x = R.length := by
 have hall : ∀ j, j < (Ydu x []).length -> rep C ((Ydu x []).getD j default) = true -> ((Ydw C ((Ydu x []).getD j default)).each.length : Int) = (R.length : Int) := by
  intro j hj hr
  have hy := Y133 (Yd6 hj)
  have h0 : 0 <= fnd C ((Ydu x []).getD j default) := by unfold rep at hr; rw [Bool.and_eq_true, decide_eq_true_eq] at hr; exact hr.1
  obtain ⟨i, _, _, _, _, _, e⟩ := Y12m hn hE hy (Ytm h0)
  rw [e, List.length_map]
 obtain ⟨h1, h2⟩ := Y177 (C := C) (I := Ydu x []) (n := (R.length : Int)) (by omega) (Ydu x []).length hall
 obtain ⟨y, hy, hd⟩ := hn.2
 obtain ⟨w, hw, e1, e2, e3⟩ := Y115 (C := C) hy
 obtain ⟨i, _, _, h0, _, hr, _⟩ := Y12m hn hE hy hd
 have hrw : rep C w = true := by unfold rep Ydw at hr ⊢; rw [e3]; exact hr
 obtain ⟨j, hj, ej⟩ := List.getElem_of_mem hw
 have hnn := Y197 (C := C) (I := Ydu x []) (Ydu x []).length j hj (by rw [show (Ydu x []).getD j default = w by simp [hj, ej]]; exact hrw)
 have h3 : cnN C (Ydu x []) (Ydu x []).length = (R.length : Int) := by omega
 refine ⟨?_, ?_⟩
 ·unfold cnB; rw [h1, Bool.true_and, decide_eq_true_eq]; omega
 ·unfold bN; omega
theorem Y1al (hn : Rn x) (hE : Ev C (rp (nm (Ydo []) aS x 1) R)) (hM : ∀ j, j < R.length -> ∃ f, mt M (Ydo []) aS x f = some (R.getD j [])) {j : Nat} (hj : j < R.length) : Ev (Yms C x j) (R.getD j []) := by
 obtain ⟨f, hf⟩ := hM j hj
 have hnm := (Y13z _ _ _ hf).trans (Y1e5 (Ydo []) aS x).symm
 have hlen : (R.getD j []).length = (nm (Ydo []) aS x 1).length := by have := congrArg List.length hnm; rwa [List.length_map, List.length_map] at this
 have nmAt : ∀ i, i < (nm (Ydo []) aS x 1).length -> ((R.getD j []).getD i default).name = ((nm (Ydo []) aS x 1).getD i default).name := by
  intro i hi
  generalize R.getD j [] = Z at hnm hlen ⊢
  have h := congrArg (fun l => l.getD i default) hnm
  simp only [List.getD_eq_getElem?_getD, List.getElem?_map] at h
  have a1 : Z[i]? = some (Z.getD i default) := by simp [show i < Z.length by omega]
  have a2 : (nm (Ydo []) aS x 1)[i]? = some ((nm (Ydo []) aS x 1).getD i default) := by simp [hi]
  rw [a1, a2] at h
  simpa using h
 have stepAt : ∀ p, (Yms C x j)[p]? = if (∃ y ∈ ((Ydu x []).take (Ydu x []).length).reverse, rep C y = true /\ (fnd C y).toNat = p) /\ p < C.length then some ((C.getD p default).each.getD j default) else C[p]? := fun p => Ywm C j p _
 have hmem : ∀ y, y ∈ ((Ydu x []).take (Ydu x []).length).reverse ↔ y ∈ Ydu x [] := fun y => by rw [List.take_length, List.mem_reverse]
 have names : (Yms C x j).map YC.name = C.map YC.name := by
  apply List.ext_getElem?
  intro p
  rw [List.getElem?_map, List.getElem?_map, stepAt p]
  split
  ·rename_i h
   obtain ⟨⟨y, hy, hr, e⟩, hp⟩ := h
   have hyx := Y133 ((hmem y).1 hy)
   have h0 : 0 <= fnd C y := by unfold rep at hr; rw [Bool.and_eq_true, decide_eq_true_eq] at hr; exact hr.1
   obtain ⟨i, hi, e1, _, e2, _, e3⟩ := Y12m hn hE hyx (Ytm h0)
   have e4 : C.getD p default = Ydw C y := by unfold Ydw; rw [e]
   have e5 : C[p]? = some (C.getD p default) := by rw [List.getD_eq_getElem?_getD, List.getElem?_eq_getElem hp]; rfl
   rw [e5, e4, e3]
   have e6 : (R.map fun c => c.getD i default).getD j default = (R.getD j []).getD i default := by
    simp only [List.getD_eq_getElem?_getD, List.getElem?_map, List.getElem?_eq_getElem hj]; rfl
   rw [e6, Option.map_some, Option.map_some, nmAt i hi, e1, e2, Ywc _ _ hi, e1]
  ·rfl
 intro z hz
 obtain ⟨i, hi, ez⟩ := List.getElem_of_mem hz
 have hi2 : i < (nm (Ydo []) aS x 1).length := by omega
 have ez2 : (R.getD j []).getD i default = z := by rw [List.getD_eq_getElem?_getD, List.getElem?_eq_getElem hi, ez]; rfl
 have hzn : z.name = ((nm (Ydo []) aS x 1).getD i default).name := by rw [<- ez2]; exact nmAt i hi2
 have hin := Y167 x 1 _ (Yd6 (L := nm (Ydo []) aS x 1) hi2)
 rw [<- hzn] at hin
 have hrm : (rp (nm (Ydo []) aS x 1) R).getD i default ∈ rp (nm (Ydo []) aS x 1) R := Yd6 (by rw [Yh3]; exact hi2)
 have h1 := hE _ hrm
 rw [Ywc _ _ hi2] at h1
 simp only at h1
 rw [<- hzn] at h1
 obtain ⟨w, hw, e1, e2, e3⟩ := Y115 (C := C) hin.1
 have h5 := Yww x 1 _ (Yd6 (L := nm (Ydo []) aS x 1) hi2)
 have h6 := Y167 x 1 _ (Yd6 (L := nm (Ydo []) aS x 1) hi2)
 have hr : rep C w = true := by
  unfold rep Ydw; rw [e3, Bool.and_eq_true, decide_eq_true_eq, decide_eq_true_eq]
  have h7 : (Ydw C z.name).depth = ((nm (Ydo []) aS x 1).getD i default).depth := by rw [h1.2]
  exact ⟨h1.1, by show 0 < (Ydw C z.name).depth; omega⟩
 have hfl : fnd C z.name < C.length := (Yn8 C z.name).2
 refine ⟨by rw [Yqg names]; exact h1.1, ?_⟩
 unfold Ydw
 rw [Yqg names, List.getD_eq_getElem?_getD, stepAt, if_pos ⟨⟨w, (hmem w).2 hw, hr, by rw [e3]⟩, by omega⟩]
 have e7 : C.getD (fnd C z.name).toNat default = Ydw C z.name := rfl
 rw [e7, h1.2]
 show (((nm (Ydo []) aS x 1).getD i default).each ++ R.map fun c => c.getD i default).getD j default = z
 rw [h5.2, List.nil_append, <- ez2]
 simp only [List.getD_eq_getElem?_getD, List.getElem?_map, List.getElem?_eq_getElem hj]; rfl
theorem Y18b (hx : Rb M x) (hn : Rn x) (hE : Ev C (rp (nm (Ydo []) aS x 1) R)) (hR : mtr (mt M (Ydo []) aS x) fs = some R) (hy : ∀ f ∈ fs, okY f = true) {q : Int} (hq : (sumBy sizeY fs : Int) <= q) (O : List YS) :
  bR C x q O = (O ++ fs, true, q - sumBy sizeY fs) := by
 obtain ⟨hl, hat⟩ := Y1ao fs R hR
 obtain ⟨c1, c2⟩ := Y1e7 hn hE
 have key : ∀ j, j <= fs.length -> bI C x j q O = (O ++ fs.take j, true, q - sumBy sizeY (fs.take j)) := by
  intro j
  induction j with
  | zero => intro _; simp [bI, itr, sumBy]
  | succ j ih =>
   intro hj
   have h1 := ih (by omega)
   have h2 : bI C x (j + 1) q O = ((bI C x j q O).1 ++ [(bld x (Yms C x j) (bI C x j q O).2.2).1], (bld x (Yms C x j) (bI C x j q O).2.2).2.1, (bld x (Yms C x j) (bI C x j q O).2.2).2.2) := Ykm _ j q O (by show (bI C x j q O).2.1 = true; rw [h1])
   have h3 := Ygx sizeY (L := fs) (i := j) (by omega)
   have h4 := Yg2 sizeY fs (j + 1)
   have h5 := hx (fs.getD j default) (hy _ (Yd6 (by omega))) _ (hat j (by omega)) (Yms C x j) (q - sumBy sizeY (fs.take j)) (Y1al hn hE (fun j hj => ⟨_, hat j (by omega)⟩) (by omega)) (by omega)
   rw [h2, h1]
   simp only
   rw [h5, Ydn (by omega : j < fs.length), List.append_assoc, Yes]
   simp only [sumBy, Prod.mk.injEq, true_and]
   omega
 have e := key fs.length (Nat.le_refl _)
 rw [List.take_length] at e
 show bJ C x (bN C x) q O = _
 unfold bJ
 rw [if_pos c1, c2, hl]; exact e
end rounds
theorem Ytj {M : YS -> YS -> Bool} {C : List YC} {a : Int} {m : Nat} : ∀ (n : Nat) (l : List YS), l.length <= n -> (∀ x ∈ l, Yd5 x = false -> Rb M x) ->
  (∀ k, k + 1 < l.length -> Yd5 (l.getD (k + 1) default) = true -> Rn (l.getD k default)) -> ∀ (i : Int) (fs : List YS) (c : List YC), (∀ k, k < l.length -> (Yd5 (l.getD k default) = true ↔ i + (k : Int) = a)) -> i ≠ a -> a < i + l.length ->
  mts M (Ydo []) aS l i a m fs = some c -> Ev C c -> (fs.length : Int) + (if i < a then 2 else 0) = l.length + (if i < a then (m : Int) else 0) -> (∀ f ∈ fs, okY f = true) -> ∀ (q : Int) (O : List YS), (sumBy sizeY fs : Int) <= q -> Yfn l C q O = (O ++ fs, true, q - sumBy sizeY fs)
 | 0, l, hl, _, _, i, fs, c, _, hi, ha, _, _, hlen, _, q, O, _ => by
  have e : l = [] := List.length_eq_zero_iff.1 (by omega)
  subst e
  simp only [List.length_nil] at ha hlen
  rw [if_neg (by omega), if_neg (by omega)] at hlen
  have e2 : fs = [] := List.length_eq_zero_iff.1 (by omega)
  subst e2
  rw [Yit]; simp [sumBy]
 | n + 1, [], hl, _, _, i, fs, c, _, hi, ha, _, _, hlen, _, q, O, _ => by
  simp only [List.length_nil] at ha hlen
  rw [if_neg (by omega), if_neg (by omega)] at hlen
  have e2 : fs = [] := List.length_eq_zero_iff.1 (by omega)
  subst e2
  rw [Yit]; simp [sumBy]
 | n + 1, [x], hl, hx, _, i, fs, c, hd, hi, ha, hm, hE, hlen, hy, q, O, hq => by
  simp only [List.length_cons, List.length_nil] at ha hlen
  rw [if_neg (by omega), if_neg (by omega)] at hlen
  obtain ⟨f, rfl⟩ : ∃ f, fs = [f] := List.length_eq_one_iff.1 (by omega)
  have hdx : Yd5 x = false := by
   cases h : Yd5 x with
   | false => rfl
   | true => exact absurd ((hd 0 (by simp)).1 h) (by simpa using hi)
  simp only [mts] at hm
  rw [if_neg hi, if_neg (by omega)] at hm
  split at hm
  ·cases hm
  ·rename_i c1 h1
   simp only [List.append_nil, Option.some.injEq] at hm
   subst hm
   have h2 := hx x List.mem_cons_self hdx f (hy f List.mem_cons_self) _ h1 C q hE (by simp only [sumBy] at hq; omega)
   rw [Ytr, h2]
   simp only [Yit, sumBy]
   rw [if_pos trivial]; simp
 | n + 1, x :: y :: r, hl, hx, hn, i, fs, c, hd, hi, ha, hm, hE, hlen, hy, q, O, hq => by
  have hdx : Yd5 x = false := by
   cases h : Yd5 x with
   | false => rfl
   | true => exact absurd ((hd 0 (by simp)).1 h) (by simpa using hi)
  have hd1 := hd 1 (by simp)
  simp only [List.length_cons] at ha hlen hl
  cases hdy : Yd5 y with
  | true =>
   have e1 : i + 1 = a := hd1.1 hdy
   have hn0 := hn 0 (by simp) hdy
   simp only [mts] at hm
   rw [if_neg hi, if_pos e1] at hm
   split at hm
   ·cases hm
   ·rename_i R hR
    rw [if_pos e1] at hm
    split at hm
    ·cases hm
    ·rename_i c' hc
     simp only [Option.some.injEq] at hm
     subst hm
     rw [if_pos (by omega), if_pos (by omega)] at hlen
     have hs : sumBy sizeY fs = sumBy sizeY (fs.take m) + sumBy sizeY (fs.drop m) := by rw [<- Yes, List.take_append_drop]
     have h1 := Y18b (hx x List.mem_cons_self hdx) hn0 hE.left hR (fun f hf => hy f (List.mem_of_mem_take hf)) (q := q) (by omega) O
     have h2 := Ytj n r (by omega) (fun z hz => hx z (by simp [hz])) (fun k hk => hn (k + 2) (by simp only [List.length_cons] at hk ⊢; omega)) (i + 1 + 1) (fs.drop m) c' (fun k hk => by
       have := hd (k + 2) (by simpa using hk)
       have e : i + ((k + 2 : Nat) : Int) = i + 1 + 1 + (k : Int) := by omega
       rw [e] at this; simpa using this) (by omega) (by omega) hc hE.right (by rw [if_neg (by omega), if_neg (by omega), List.length_drop]; omega) (fun f hf => hy f (List.mem_of_mem_drop hf)) (q - sumBy sizeY (fs.take m)) (O ++ fs.take m) (by omega)
     rw [Ynb, if_pos hdy, h1]
     simp only
     rw [if_pos trivial, h2, List.append_assoc, List.take_append_drop, hs]
     simp only [Prod.mk.injEq, true_and]; omega
  | false =>
   have e1 : i + 1 ≠ a := fun e => by have h := hd1.2 e; rw [show (x :: y :: r).getD 1 default = y from rfl, hdy] at h; cases h
   rw [mts, if_neg hi, if_neg e1] at hm
   split at hm
   ·cases hm
   ·rename_i c1 h1
    split at hm
    ·cases hm
    ·rename_i c' hc
     simp only [Option.some.injEq] at hm
     subst hm
     have hfl : 0 < fs.length := by
      by_cases hia : i < a
      ·rw [if_pos hia, if_pos hia] at hlen; omega
      ·rw [if_neg hia, if_neg hia] at hlen; omega
     obtain ⟨f, fr, rfl⟩ : ∃ f fr, fs = f :: fr := by
      cases fs with
      | nil => simp at hfl
      | cons f fr => exact ⟨f, fr, rfl⟩
     simp only [sumBy] at hq
     have h2 := hx x List.mem_cons_self hdx f (hy f List.mem_cons_self) _ h1 C q hE.left (by omega)
     have h3 := Ytj n (y :: r) (by simp only [List.length_cons]; omega) (fun z hz => hx z (List.mem_cons_of_mem _ hz)) (fun k hk => hn (k + 1) (by simpa using hk)) (i + 1) fr c' (fun k hk => by
       have := hd (k + 1) (by simpa using hk)
       have e : i + ((k + 1 : Nat) : Int) = i + 1 + (k : Int) := by omega
       rw [e] at this; simpa using this) e1 (by simp only [List.length_cons]; omega) (by simpa using hc) hE.right (by
        simp only [List.length_cons] at hlen ⊢
        by_cases hia : i < a
        ·rw [if_pos hia, if_pos hia] at hlen; rw [if_pos (by omega), if_pos (by omega)]; omega
        ·rw [if_neg hia, if_neg hia] at hlen; rw [if_neg (by omega), if_neg (by omega)]; omega) (fun g hg => hy g (List.mem_cons_of_mem _ hg)) (q - sizeY f) (O ++ [f]) (by omega)
     rw [Ynb, if_neg (by rw [hdy]; decide), h2]
     simp only
     rw [if_pos trivial, h3]
     simp only [sumBy, List.append_assoc, List.cons_append, List.nil_append, Prod.mk.injEq, true_and]; omega
theorem Yq6 {L : List YC} {v : Int} : ∀ (n : Nat) (l : List YS), l.length <= n -> (∀ x, l.head? = some x -> Yd5 x = false) -> (∀ k, k + 1 < l.length -> Yd5 (l.getD k default) = true -> Yd5 (l.getD (k + 1) default) = false) -> Yge L l v = true ->
  ∀ k, k < l.length -> Yd5 (l.getD k default) = false -> (∃ w, fit L (l.getD k default) w = true) /\ (k + 1 < l.length -> Yd5 (l.getD (k + 1) default) = true -> drv L v (l.getD k default) = true)
 | 0, l, hl, _, _, _, k, hk, _ => absurd hk (by omega)
 | n + 1, [], hl, _, _, _, k, hk, _ => absurd hk (by simp)
 | n + 1, [x], hl, _, _, h, k, hk, _ => by
  obtain rfl : k = 0 := by simpa using hk
  rw [Yge] at h
  exact ⟨⟨v, h⟩, fun a => absurd a (by simp)⟩
 | n + 1, x :: y :: r, hl, hh, hd, h, k, hk, hkd => by
  rw [Yge] at h
  cases hdy : Yd5 y with
  | true =>
   rw [hdy, if_pos rfl] at h
   simp only [Bool.and_eq_true] at h
   match k, hk, hkd with
   | 0, _, _ => exact ⟨⟨v + 1, h.1.2⟩, fun _ _ => h.1.1.2⟩
   | 1, _, e => rw [show (x :: y :: r).getD 1 default = y from rfl, hdy] at e; cases e
   | k + 2, hk, hkd =>
    exact Yq6 n r (by simp only [List.length_cons] at hl; omega) (fun z hz => by
     cases r with
     | nil => simp at hz
     | cons w r => simp only [List.head?_cons, Option.some.injEq] at hz; subst hz; exact hd 1 (by simp) hdy) (fun k hk => hd (k + 2) (by simp only [List.length_cons] at hk ⊢; omega)) h.2 k (by simp only [List.length_cons] at hk; omega) hkd
     |>.imp id fun f a => f (by simp only [List.length_cons] at a; omega)
  | false =>
   rw [hdy, if_neg (by decide)] at h
   simp only [Bool.and_eq_true] at h
   match k, hk, hkd with
   | 0, _, _ => exact ⟨⟨v, h.1⟩, fun _ e => by rw [show (x :: y :: r).getD (0 + 1) default = y from rfl, hdy] at e; cases e⟩
   | k + 1, hk, hkd =>
    exact Yq6 n (y :: r) (by simp only [List.length_cons] at hl ⊢; omega) (fun z hz => by simp only [List.head?_cons, Option.some.injEq] at hz; subst hz; exact hdy) (fun k hk => hd (k + 1) (by simpa using hk)) h.2 k (by simpa using hk) hkd
     |>.imp id fun f a => f (by simpa using a)
theorem Y130 {p : YS} (h : okY p = true) (h0 : p.kind = 0) : p.number = 0 /\ p.text = mkS [] /\ p.scopes = [] := by
 rw [Yj6, Bool.and_eq_true] at h
 have h2 := h.2
 simp only [Yjc, Yjf, Bool.and_eq_true, Bool.or_eq_true, decide_eq_true_eq] at h2
 have h3 := h2.1.1
 have e : p.number = 0 /\ p.text.data.toList = [] := by
  rcases h3 with (((h3 | h3) | h3) | h3) | h3
  ·exact h3.2
  all_goals (have := h3.1; omega)
 refine ⟨e.1, ?_, ?_⟩
 ·rw [<- Y1hk p.text, e.2]
 ·exact List.length_eq_zero_iff.1 (by omega)
theorem reb {M : YS -> YS -> Bool} : ∀ (p : YS), good [] p -> (∀ y ∈ nmZ p, Ye3 y = false) -> (∃ L v, fit L p v = true) -> Rb M p := by
 refine YS.ind fun p ih hg hu hf f hy c hm C q hE hq => ?_
 have hs1 := Ye6 f
 have hq1 : ¬ q - 1 < 0 := by omega
 rw [Yg8] at hm
 by_cases hk : p.kind = 1
 ·have hup := hu p (by rw [Ygk, if_pos hk]; simp)
  rw [if_pos hk, if_neg (by rw [hup]; decide), if_neg (by rw [Yzw]; decide), Option.some.injEq] at hm
  subst hm
  have h1 := hE (Yje p f) (by simp)
  have h2 : Ydw C p = Yje p f := h1.2
  have h3 : 0 <= fnd C p := h1.1
  have h4 : C.getD (fnd C p).toNat default = Yje p f := h2
  rw [Y1j8 hq1 hk (Ytm h3) (by omega) (by rw [h4]; rfl) (by rw [h4]; exact hq), h4]
  simp only [Yje, Prod.mk.injEq, true_and]
  omega
 rw [if_neg hk] at hm
 have hni : ∀ x ∈ p.items, ∀ y ∈ nmZ x, Ye3 y = false := fun x hx y hyx => hu y (by rw [Ygk, if_neg hk, List.nil_append]; exact List.mem_flatMap.2 ⟨x, hx, hyx⟩)
 by_cases h0 : p.kind = 0
 ·rw [if_pos h0] at hm
  split at hm
  ·rename_i hfm
   have hs := Ykx hg h0
   have ha := Y1k8 hs
   simp only [Ylr, Bool.and_eq_true, Bool.or_eq_true, decide_eq_true_eq] at hfm
   obtain ⟨⟨f0, fm⟩, fl⟩ := hfm
   have hdots := fun k (hk : k < p.items.length) => Y14c hs hk
   obtain ⟨L, v, hf⟩ := hf
   rw [Y11v, if_neg hk] at hf
   have hfi := Yq6 p.items.length p.items (Nat.le_refl _) (fun z hz => by
     cases hp : p.items with
     | nil => rw [hp] at hz; simp at hz
     | cons w r =>
      rw [hp] at hz
      simp only [List.head?_cons, Option.some.injEq] at hz; subst hz
      cases hw : Yd5 w with
      | false => rfl
      | true =>
       have := (hdots 0 (by rw [hp]; simp)).1 (by rw [hp]; exact hw)
       omega) (fun k hk hd => by
     cases hw : Yd5 (p.items.getD (k + 1) default) with
     | false => rfl
     | true =>
      have a1 := (hdots k (by omega)).1 hd
      have a2 := (hdots (k + 1) hk).1 hw
      omega) hf
   have hgi : ∀ k, k < p.items.length -> Yd5 (p.items.getD k default) = false -> good [] (p.items.getD k default) := fun k hk hd => Yhp hg h0 hk fun e => by rw [(hdots k hk).2 e] at hd; cases hd
   have key := Ytj (M := M) (C := C) (a := aS p.items) (m := (Yhh (aS p.items) p.items.length f.items.length).toNat) p.items.length p.items (Nat.le_refl _) (fun x hx hd => by
     obtain ⟨k, hk, e⟩ := List.getElem_of_mem hx
     have ex : p.items.getD k default = x := by simp [hk, e]
     have a1 := hgi k hk (by rw [ex]; exact hd)
     have a2 := (hfi k hk (by rw [ex]; exact hd)).1
     rw [ex] at a1 a2
     obtain ⟨w, hw⟩ := a2
     exact ih x hx a1 (hni x hx) ⟨L, w, hw⟩) (fun k hk hd => by
     have a0 : Yd5 (p.items.getD k default) = false := by
      cases hw : Yd5 (p.items.getD k default) with
      | false => rfl
      | true =>
       have a1 := (hdots k (by omega)).1 hw
       have a2 := (hdots (k + 1) hk).1 hd
       omega
     have a1 := hgi k (by omega) a0
     have a2 := (hfi k (by omega) a0).2 hk hd
     exact ⟨Y1ji _ a1 (hni _ (Yd6 (by omega))) 1, Y1fw _ a2⟩) 0 f.items c (fun k hk => by rw [hdots k hk]; constructor <;> (intro; omega)) (by omega) (by omega) hm hE (by
     unfold Yhh at fm ⊢
     by_cases hp : 0 <= aS p.items
     ·rw [if_pos hp] at fm
      rw [if_pos (by omega), if_pos (by omega), if_pos hp]; omega
     ·rw [if_neg (by omega), if_neg (by omega)]
      rcases fl with fl | fl
      ·exact absurd fl hp
      ·omega) (Yhu hy) (q - 1) [] (by omega)
   rw [Y18v hq1 hk (by rw [key]), key]
   have e1 := Y130 hg.1 h0
   have e2 := Y130 hy f0
   rw [Y1do f]
   simp only [h0, f0, e1.1, e2.1, e1.2.1, e2.2.1, e2.2.2, List.nil_append, Prod.mk.injEq, true_and]
   rw [Ye6]; simp only; omega
  ·cases hm
 ·rw [if_neg h0] at hm
  split at hm
  ·rename_i he
   have e1 := Yim hg.1 h0
   have e2 := Yim hy (by omega)
   have e3 := (Y110 hy).2 (by omega)
   have hb : Yfn p.items C (q - 1) [] = ([], true, q - 1) := by rw [e1, Yit]
   rw [Y18v hq1 hk (by rw [hb]), hb]
   rw [Y1do f]
   simp only [e2, e3, he.1, he.2.1, he.2.2, Prod.mk.injEq, true_and]
   rw [Ye6]; simp only [sumBy]; omega
  ·cases hm
theorem Yqn {L : List YC} {v : Int} : ∀ (n : Nat) (l : List YS), l.length <= n -> (∀ x ∈ l, ∀ v, fit L x v = true -> Yj2 x = true) -> Yge L l v = true -> Yek true l = true
 | 0, l, hl, _, _ => by
  have e : l = [] := List.length_eq_zero_iff.1 (by omega)
  subst e; rw [Yek]
 | n + 1, [], hl, _, _ => by rw [Yek]
 | n + 1, [x], hl, hx, h => by
  rw [Yge] at h
  have h1 := hx x List.mem_cons_self v h
  have h2 := h1
  rw [Ymb, Bool.and_eq_true, Bool.not_eq_true'] at h2
  rw [Yek, h2.1, if_neg (by decide), h1, Yek]; rfl
 | n + 1, x :: y :: r, hl, hx, h => by
  rw [Yge] at h
  simp only [List.length_cons] at hl
  cases hdy : Yd5 y with
  | true =>
   rw [hdy, if_pos rfl] at h
   simp only [Bool.and_eq_true] at h
   have h1 := hx x List.mem_cons_self _ h.1.2
   have h2 := h1
   rw [Ymb, Bool.and_eq_true, Bool.not_eq_true'] at h2
   have h3 := Yqn n r (by omega) (fun z hz => hx z (by simp [hz])) h.2
   rw [Yek, h2.1, if_neg (by decide), h1, Yek, hdy, if_pos rfl, h3]; rfl
  | false =>
   rw [hdy, if_neg (by decide)] at h
   simp only [Bool.and_eq_true] at h
   have h1 := hx x List.mem_cons_self _ h.1
   have h2 := h1
   rw [Ymb, Bool.and_eq_true, Bool.not_eq_true'] at h2
   have h3 := Yqn n (y :: r) (by simp only [List.length_cons]; omega) (fun z hz => hx z (List.mem_cons_of_mem _ hz)) h.2
   rw [Yek, hdy, if_neg (by decide)] at h3
   rw [Yek, h2.1, if_neg (by decide), h1, Yek, hdy, if_neg (by decide), h3]; rfl
theorem Y1fd {L : List YC} : ∀ (t : YS), okY t = true -> ∀ v, fit L t v = true -> Yj2 t = true := by
 refine YS.ind fun t ih hy v h => ?_
 rw [Y11v] at h
 rw [Ymb]
 split at h
 ·rename_i hk
  rw [Bool.and_eq_true] at h
  rw [h.1, Yim hy (by omega), Yek]; rfl
 ·rename_i hk
  have h1 : Yd5 t = false := by simp [Yd5, hk]
  rw [h1, Yqn t.items.length t.items (Nat.le_refl _) (fun x hx v => ih x hx (Yhu hy x hx) v) h]; rfl
def Dst (L : List YC) : Prop := ∀ i, i < L.length -> fnd L (L.getD i default).name = i
theorem Y1e0 {o : List YC} {p : YS} {d : Int} (h : Dst o) (hi : Ygq p = true) (hd : Yd5 p = false) (hf : ¬ 0 <= fnd o p) : Dst (o ++ [Ygh p d]) := by
 have hno : ¬ Yfz o p < o.length := fun h => hf (by unfold fnd; rw [if_pos ⟨hd, h⟩]; omega)
 have hle := Ywq o p
 intro i hi2
 rw [List.length_append, List.length_singleton] at hi2
 by_cases e : i < o.length
 ·have e1 : (o ++ [Ygh p d]).getD i default = o.getD i default := by simp [List.getD_eq_getElem?_getD, List.getElem?_append_left e]
  have h1 := h i e
  rw [e1]
  unfold fnd at h1
  split at h1
  ·rename_i hh
   have h2 : Yfz (o ++ [Ygh p d]) (o.getD i default).name = i := by
    unfold Yfz at hh ⊢
    rw [List.findIdx_append, if_pos hh.2]
    have : Yfz o (o.getD i default).name = i := by omega
    exact this
   unfold fnd
   rw [h2, if_pos ⟨hh.1, by rw [List.length_append]; omega⟩]
  ·omega
 ·obtain rfl : i = o.length := by omega
  have e1 : (o ++ [Ygh p d]).getD o.length default = Ygh p d := by simp [List.getD_eq_getElem?_getD]
  rw [e1]
  have h2 : Yfz (o ++ [Ygh p d]) p = o.length := by
   unfold Yfz at hno ⊢
   rw [List.findIdx_append, if_neg hno]
   have : Yg0 p (Ygh p d) = true := by simp only [Yg0, Ygh, hi, decide_true, Bool.and_self]
   simp [List.findIdx_cons, this]
  show fnd (o ++ [Ygh p d]) p = _
  unfold fnd
  rw [h2, if_pos ⟨hd, by rw [List.length_append]; simp⟩]
theorem Y162 {Ls : List YS} : ∀ (l : List YS), (∀ x ∈ l, ∀ d o r, vrS Ls x d o = some r -> Dst o -> Dst r) -> ∀ i a d o r, wlk (vrS Ls) l i a d o = some r -> Dst o -> Dst r
 | [], _, i, a, d, o, r, e, h => by simp only [wlk, Option.some.injEq] at e; subst e; exact h
 | x :: l, hl, i, a, d, o, r, e, h => by
  have ih := Y162 l (fun y hy => hl y (List.mem_cons_of_mem _ hy)) (i + 1) a d
  simp only [wlk] at e
  split at e
  ·exact ih _ _ e h
  ·split at e
   ·cases e
   ·rename_i o' ho
    exact ih _ _ e (hl x List.mem_cons_self _ _ _ ho h)
theorem Y1g7 {p : YS} (h : okY p = true) (hk : p.kind = 1) : Ygq p = true := by
 have e := Yim h (by omega)
 have h1 := Ye6 p
 have h2 := Yku p
 rw [e] at h1 h2
 simp only [Ygq, Ydk, hk, h, Bool.and_true, decide_true, Bool.true_and, Bool.and_eq_true, decide_eq_true_eq]
 have e2 : Yeb Ydp [] = 0 := rfl
 have e3 : sumBy sizeY [] = 0 := rfl
 omega
theorem Y1go {Ls : List YS} : ∀ (p : YS), okY p = true -> ∀ d o r, vrS Ls p d o = some r -> Dst o -> Dst r := by
 refine YS.ind fun p ih hy d o r e h => ?_
 rw [Yhf] at e
 split at e
 ·rename_i hk
  split at e
  ·simp only [Option.some.injEq] at e; subst e; exact h
  ·split at e
   ·cases e
   ·rename_i hh
    simp only [not_or] at hh
    simp only [Option.some.injEq] at e; subst e
    exact Y1e0 h (Y1g7 hy hk) (by simpa using hh.1) hh.2.1
 ·split at e
  ·exact Y162 p.items (fun x hx => ih x hx (Yhu hy x hx)) _ _ _ _ _ e h
  ·cases e
theorem Y1js {C V : List YC} (h : C.map YC.name = V.map YC.name) (hV : Dst V) : Ev C C := by
 intro z hz
 obtain ⟨i, hi, e⟩ := List.getElem_of_mem hz
 have hl : C.length = V.length := by have := congrArg List.length h; simpa using this
 have hn : z.name = (V.getD i default).name := by
  have h2 := congrArg (fun l => l[i]?) h
  simp only [List.getElem?_map, List.getElem?_eq_getElem hi, List.getElem?_eq_getElem (show i < V.length by omega), Option.map_some, Option.some.injEq] at h2
  rw [<- e, h2]; simp [show i < V.length by omega]
 have h1 : fnd C z.name = i := by rw [Yqg h, hn]; exact hV i (by omega)
 refine ⟨by omega, ?_⟩
 unfold Ydw
 rw [h1, Int.toNat_natCast]; simp [hi, e]
theorem Y1fp {B : List YB} {p f : YS} {V L : List YC} (h1 : mtB B [] p f = true) (h2 : vrS [] p 0 [] = some V) (h3 : tmF L p = true) (h4 : ∀ y ∈ Ydu p [], Ye3 y = false) :
  Ylt p (mtO B [] p f) = true /\ Yo2 p (mtO B [] p f) = f := by
 have h1' := h1
 simp only [mtB, Bool.and_eq_true] at h1'
 obtain ⟨⟨⟨⟨⟨_, hp⟩, hv⟩, _⟩, hf⟩, hs⟩ := h1'
 obtain ⟨c, hc⟩ := Option.isSome_iff_exists.1 hs
 have hO : mtO B [] p f = c := by unfold mtO; rw [if_pos h1, hc]; rfl
 obtain ⟨hg, hsz, hdp⟩ := Ysc hp hv
 have hu : ∀ y ∈ nmZ p, Ye3 y = false := fun y hy => by
  obtain ⟨w, hw, e1, e2, _⟩ := Y115 (C := []) hy
  have := h4 w hw
  unfold Ye3 at this ⊢; rw [<- e1]; exact this
 simp only [tmF, Bool.and_eq_true] at h3
 have hfy : okY f = true := by simp only [Ydk, Bool.and_eq_true] at hf; exact hf.2
 have hfs : sizeY f <= 2000 := by simp only [Ydk, Bool.and_eq_true, decide_eq_true_eq] at hf; exact hf.1.1
 have hE : Ev c c := Y1js ((Y13z p f c hc).trans (by
  have := Yv8 p hg.1 0 [] V h2
  rw [this, List.nil_append])) (Y1go p hg.1 0 [] V h2 fun i hi => absurd hi (by simp))
 have hb := reb (M := mng B) p hg hu ⟨L, 0, h3.2⟩ f hfy c hc c 2000 hE (by omega)
 have hd : Yj2 p = true := Y1fd p hg.1 0 h3.2
 have hB : Ylt p c = true := by unfold Ylt; rw [hp, hd, hb, hf]; rfl
 rw [hO]
 exact ⟨hB, by unfold Yo2; rw [if_pos hB, hb]⟩
end Go.Proofs.YtclpofblehlojaaGreat
end
section
namespace Go.Proofs.YtclpofblehlojaaGreat
open Go Ab
set_option maxHeartbeats 4000000
abbrev Z5e (s : YS) : Ct := ⟨11, [], [Ydl s], [.arr true 5 ((Yic s).map Ycz)], .sv (.one (.ref 0))⟩
theorem Z42 (s : YS) (h : wY s <= 1048576)  : Z5e s := Yde Tryz.call11 Tryz.func11 (.c [.rd] (Z1s s) (.b (!Ydk s) (.w (.ghost (.nilreg 2 true 5)) (.f [1]
 [.arr true 5 []] (.sv (.one (.ref 0))))) (.w (.bool false) (.d [.rd, .own true 5] (Z1l s []) (.f [3] [.arr true 5 ((Ydu s []).map Ycz)] (.sv (.one
 (.ref 0)))))))) (by
 dsimp only [Yd3, Z5e]
 have g1 := Yrd s
 with_reducible repeat' (first | apply And.intro | exact zR | (intro) | apply Zbs)
 all_goals ((try simp only [std, inj] at *); with_reducible and_intros)
 all_goals try with_reducible first | apply Zbs
 all_goals try first | exact z | grind [Yic, Yd7, Yd8, Yd4])
def rbV (b : List UInt8) : List YC := if okL [] = true /\ Ydk (mpP b) = true then (vrS [] (mpP b) 0 []).getD [] else []
def rbI (b : List UInt8) : List YS := Yic (mpP b)
theorem Y143 {b : List UInt8} (h1 : mtB (mpB b) [] (mpP b) (mpF b) = true) : (okL [] && Ydk (mpP b) && (vrS [] (mpP b) 0 []).isSome) = true /\ (mtO (mpB b) [] (mpP b) (mpF b)).length = (rbV b).length /\
  (tmF (rbV b) (mpP b) = true -> (rbI b).all (fun y => !Ye3 y) = true -> Ylt (mpP b) (mtO (mpB b) [] (mpP b) (mpF b)) = true /\ Yo2 (mpP b) (mtO (mpB b) [] (mpP b) (mpF b)) = mpF b) := by
 have h2 := h1
 simp only [mtB, Bool.and_eq_true] at h2
 obtain ⟨⟨⟨⟨⟨a1, a2⟩, a3⟩, a4⟩, a5⟩, a6⟩ := h2
 obtain ⟨V, hV⟩ := Option.isSome_iff_exists.1 a3
 obtain ⟨c, hc⟩ := Option.isSome_iff_exists.1 a6
 have eV : rbV b = V := by unfold rbV; rw [if_pos ⟨a1, a2⟩, hV]; rfl
 have eI : rbI b = Ydu (mpP b) [] := by unfold rbI Yic; rw [if_pos a2]
 refine ⟨by rw [a1, a2, a3]; rfl, ?_, fun h3 h4 => ?_⟩
 ·have hO : mtO (mpB b) [] (mpP b) (mpF b) = c := by unfold mtO; rw [if_pos h1, hc]; rfl
  have hy : okY (mpP b) = true := by simp only [Ydk, Bool.and_eq_true] at a2; exact a2.2
  rw [hO, eV, Yv4 _ _ _ hc, Yv8 _ hy _ _ _ hV, List.nil_append]
 ·rw [eV] at h3
  rw [eI, List.all_eq_true] at h4
  exact Y1fp h1 hV h3 fun y hy => by simpa using h4 y hy
theorem Y1et {b : List UInt8} (h1 : mtB (mpB b) [] (mpP b) (mpF b) = true) (hb : b.length <= 1048576) : (mtO (mpB b) [] (mpP b) (mpF b)).length <= 1000000000 /\ ∀ z ∈ mtO (mpB b) [] (mpP b) (mpF b), mxP z <= 1000000000 := by
 have r := (Y143 h1).2.1
 have w1 := Y1eg b
 have w2 := Y1ef hb
 have h2 := h1
 simp only [mtB, Bool.and_eq_true] at h2
 obtain ⟨⟨⟨⟨⟨a1, a2⟩, a3⟩, a4⟩, a5⟩, a6⟩ := h2
 obtain ⟨V, hV⟩ := Option.isSome_iff_exists.1 a3
 obtain ⟨c, hc⟩ := Option.isSome_iff_exists.1 a6
 have eV : rbV b = V := by unfold rbV; rw [if_pos ⟨a1, a2⟩, hV]; rfl
 have hl := Y15h [] _ _ _ _ hV
 have hs := Yrd (mpP b)
 have hO : mtO (mpB b) [] (mpP b) (mpF b) = c := by unfold mtO; rw [if_pos h1, hc]; rfl
 refine ⟨?_, fun z hz => ?_⟩
 ·rw [r, eV]; simp only [List.length_nil] at hl; omega
 ·rw [hO] at hz
  exact Nat.le_trans (Y1l4 _ _ _ hc (Nat.le_refl _) z hz) (by omega)
abbrev Z9g (b : List UInt8) : Ct := ⟨3, [], [ll (b.map Ydi)], [], .sv (lb true)⟩
def Z4n (b : List UInt8) : Lp Nat := .mk 100 0 (fun x => [(5, .one (.ptr 0 0)), (6, .one (.ptr 1 0)), (7, .one (.ref 2)), (78, .one (.ref 3)), (79, li
 (↑((Yic (mpP b)).map Ycz).length : Int)), (80, hs x 0)]) (fun x => [.box [vI (mpP b).kind, vI (mpP b).number, vS (mpP b).text, .ref 4, .ref 5], .box [vI (mpF
 b).kind, vI (mpF b).number, vS (mpF b).text, .ref 6, .ref 7], .arr true 12 ((mtO (mpB b) [] (mpP b) (mpF b)).map Yd0), .arr true 5 ((Yic (mpP
 b)).map Ycz), .arr true 1 ((mpP b).scopes.map Yd2), .arr true 5 ((mpP b).items.map Ycz), .arr true 1 ((mpF b).scopes.map Yd2), .arr true 5 (List.map Ycz
 (mpF b).items)]) (fun k => [.s (li (k : Int))]) (fun k => k <= (Yic (mpP b)).length /\ (Yic (mpP b)).length <= 9223372036854775807 /\ ((List.take k (Yic (mpP b))).all fun y =>
 !Ye3 y) = true) (fun k => (Yic (mpP b)).length - k) [.mk (((Yic (mpP b)).all fun y => !Ye3 y) = true) (.exit 0) (fun x => [(5, .one (.ptr 0 0)), (6, .one (.ptr 1
 0)), (7, .one (.ref 2))]) (fun x => [.box [vI (mpP b).kind, vI (mpP b).number, vS (mpP b).text, .ref 3, .ref 4], .box [vI (mpF b).kind, vI (mpF b).number, vS (mpF
 b).text, .ref 5, .ref 6], .arr true 12 ((mtO (mpB b) [] (mpP b) (mpF b)).map Yd0), .arr true 1 ((mpP b).scopes.map Yd2), .arr true 5 (List.map Ycz
 (mpP b).items), .arr true 1 ((mpF b).scopes.map Yd2), .arr true 5 ((mpF b).items.map Ycz)]) [], .mk True .ret (fun x => [(2, hs x 0)]) (fun x => []) [.s (lb
 true)]]
theorem Zbt (b : List UInt8) : Lp.Sem Tryz.prog (Ydg Tryz.f3 0) (Z4n b) := Ydr (fun k => .i ((k : Int) < (↑((Yic (mpP b)).map Ycz).length : Int)) (.p (0
 <= (k : Int) /\ (k : Int).toNat < ((Yic (mpP b)).map Ycz).length) (.w (.cells (Yda ((Yic (mpP b)).getD (k : Int).toNat default))) (.p (((Yic (mpP
 b)).map Ycz)[(k : Int).toNat]? = some (Yda ((Yic (mpP b)).getD (k : Int).toNat default))) (.i (((Yic (mpP b)).getD (k : Int).toNat default).text.data.toList = [(95 : UInt8)]) (.o
 1 [] [.s (lb true)]) (.r ((k : Int) + 1) (.g [0, 1, 2, 3, 4, 5, 6, 7] (k + 1) [.s (li ((k : Int) + 1))])))))) (.o 0 [0, 1, 2, 4, 5, 6, 7] [])) (by
 intro k h; try dsimp only [Yd3, Ydb, Z4n] at h ⊢
 with_reducible repeat' (first | apply And.intro | exact zR | (intro) | apply Z71 | apply Z41 | apply Z40 | apply Z3v | apply Z42 | apply Z5x)
 all_goals ((try simp only [std, inj] at *); with_reducible and_intros)
 all_goals try with_reducible first | apply Z71 | apply Z41 | apply Z40 | apply Z3v | apply Z42 | apply Z5x
 all_goals try first | exact zw | grind [Ydn, Ye3, Yd7, Yd8, Yd4])
theorem Zcy (b : List UInt8)  : Z9g b := Yde Tryz.call3 Tryz.func3 (.z Ydi b (.i (1048576 < (↑(b.map Ydi).length : Int)) (.s (lb true)) (.d [.rd] (Z7b b) (.d
 [.rd, .rd, .rd, .rd] (Z5d (mpB b) [] (mpP b) (mpF b)) (.d [.rd, .rd, .rd, .rd] (Z5c (mpB b) [] (mpP b) (mpF b)) (.i (mtB (mpB b) [] (mpP b) (mpF b) ≠ mtB (mpB b) []
 (mpP b) (mpF b)) (.s (lb false)) (.d [.rd, .rd] (Z4z [] (mpP b)) (.b (!mtB (mpB b) [] (mpP b) (mpF b)) (.y true (.y true (.y true (.b (!mtB (mpB b) [] (mpP b) (mpF b)) (.s
 (lb true)) (.z Yd0 (mtO (mpB b) [] (mpP b) (mpF b)) (.z Yd0 (if okL [] = true /\ Ydk (mpP b) = true then (vrS [] (mpP b) 0 []).getD [] else []) (.s (lb (decide
 ((↑((mtO (mpB b) [] (mpP b) (mpF b)).map Yd0).length : Int) = (↑((if okL [] = true /\ Ydk (mpP b) = true then (vrS [] (mpP b) 0 []).getD [] else
 []).map Yd0).length : Int))))))))))) (.b (!(okL [] && Ydk (mpP b) && (vrS [] (mpP b) 0 []).isSome)) (.y true (.y true (.b (!mtB (mpB b) [] (mpP b) (mpF b)) (.s (lb true)) (.z Yd0
 (mtO (mpB b) [] (mpP b) (mpF b)) (.z Yd0 (if okL [] = true /\ Ydk (mpP b) = true then (vrS [] (mpP b) 0 []).getD [] else []) (.s (lb (decide ((↑((mtO (mpB
 b) [] (mpP b) (mpF b)).map Yd0).length : Int) = (↑((if okL [] = true /\ Ydk (mpP b) = true then (vrS [] (mpP b) 0 []).getD [] else []).map Yd0).length : Int)))))))))) (.c [.rd,
 .rd] (Zct (if okL [] = true /\ Ydk (mpP b) = true then (vrS [] (mpP b) 0 []).getD [] else []) (mpP b)) (.b (!tmF (if okL [] = true /\ Ydk (mpP b) = true then (vrS [] (mpP b)
 0 []).getD [] else []) (mpP b)) (.y true (.b (!mtB (mpB b) [] (mpP b) (mpF b)) (.s (lb true)) (.z Yd0 (mtO (mpB b) [] (mpP b) (mpF b)) (.z Yd0 (if okL [] = true /\ Ydk
 (mpP b) = true then (vrS [] (mpP b) 0 []).getD [] else []) (.s (lb (decide ((↑((mtO (mpB b) [] (mpP b) (mpF b)).map Yd0).length : Int) = (↑((if okL []
 = true /\ Ydk (mpP b) = true then (vrS [] (mpP b) 0 []).getD [] else []).map Yd0).length : Int))))))))) (.z Yd0 (mtO (mpB b) [] (mpP b) (mpF b)) (.z Yd0 (if okL [] = true /\
 Ydk (mpP b) = true then (vrS [] (mpP b) 0 []).getD [] else []) (.i ((↑((mtO (mpB b) [] (mpP b) (mpF b)).map Yd0).length : Int) ≠ (↑((if okL [] = true
 /\ Ydk (mpP b) = true then (vrS [] (mpP b) 0 []).getD [] else []).map Yd0).length : Int)) (.b (!mtB (mpB b) [] (mpP b) (mpF b)) (.s (lb true)) (.z Yd0 (mtO (mpB b) [] (mpP b) (mpF
 b)) (.z Yd0 (if okL [] = true /\ Ydk (mpP b) = true then (vrS [] (mpP b) 0 []).getD [] else []) (.s (lb (decide ((↑((mtO (mpB b) [] (mpP b) (mpF
 b)).map Yd0).length : Int) = (↑((if okL [] = true /\ Ydk (mpP b) = true then (vrS [] (mpP b) 0 []).getD [] else []).map Yd0).length : Int)))))))) (.d [.rd] (Z5e (mpP b))
 (.z Ycz (Yic (mpP b)) (.l (Z4n b) (Zbt b) [6, 7, 8, 11, 2, 3, 4, 5] [.s (li 0)] 0 (.t (.d [.rd, .rd] (Z6l (mpP b) (mtO (mpB b) [] (mpP b) (mpF b))) (.b (Ylt
 (mpP b) (mtO (mpB b) [] (mpP b) (mpF b))) (.c [.rd, .rd] (Z9j (Yo2 (mpP b) (mtO (mpB b) [] (mpP b) (mpF b))) (mpF b)) (.s (lb (decide (Yo2 (mpP b) (mtO (mpB b) [] (mpP
 b) (mpF b)) = mpF b))))) (.s (lb false)))) (.t (.s (lb true)) .q))))))))))))))))))) (by
 dsimp only [Yd3, Z9g, Ydb, Z4n]
 have w1 := Y1eg b
 have w2 := @Y1ef b
 have w3 := @Y1l9 b
 have r1 := @Y143 b
 with_reducible repeat' (first | apply And.intro | exact zR | (intro) | apply Z71 | apply Z41 | apply Z40 | apply Z3v | apply Z42 | apply Z5x)
 all_goals ((try simp only [std, inj] at *); with_reducible and_intros)
 all_goals try first | with_reducible (first | apply Z71 | apply Z41 | apply Z40 | apply Z3v | apply Z42 | apply Z5x) | (simp only [<- List.map_append]; with_reducible first | apply Z71 | apply Z41 | apply Z40 | apply Z3v | apply Z42 | apply Z5x)
 all_goals try first | exact zw | grind [rbV, rbI, Yd7, Yd8, Yd4]
 all_goals first
  | exact (Y1et (by simpa using ‹(!mtB (mpB b) [] (mpP b) (mpF b)) = false›) (by omega)).1
  | exact (Y1et (by simpa using ‹(!mtB (mpB b) [] (mpP b) (mpF b)) = false›) (by omega)).2 _ (by assumption))
end Go.Proofs.YtclpofblehlojaaGreat
end
section
namespace Go.Proofs.YtclpofblehlojaaGreat.fnRebuilt
open Go Go.ChangeShapes Go.WideShapes Go.ChangeAt Go.RowKit Go.Proofs.YtclpofblehlojaaGreat.Ab
theorem own : ownKnob Tryz.prog.godebug = none := by kernel_rfl
theorem Y1ma : laidOutB Tryz.prog = true := by kernel_rfl
theorem Y1kc : mapsRowed Tryz.prog = true := by kernel_rfl
theorem Y1l1 : ((List.range Tryz.prog.types.size).all fun t => match Tryz.prog.underlying t with | some (.slice e) => decide (0 < Tryz.prog.cellsOf e) | _ => true) = true := by kernel_rfl
set_option maxRecDepth 100000 in
theorem Y1id (os : Os) (started : os.Started) (H : Type) (enc : TypeId × Value -> H) :
  ReturnsInHanded {} Tryz.checked os 3 .any (Rows.fnRebuiltSpec.pre6 enc Tryz.prog Tryz.f3 Rows.fnRebuiltRow.domain false) (Rows.fnRebuiltSpec.post enc Tryz.prog Tryz.f3 false true false false) := by
 refine returnsInHanded_of_change (C := Tryz.checked) own started (by kernel_rfl) Tryz.func3
  (ChangeSpec.witness6 (enc := enc) (C := Tryz.checked) false ⟨#[], #[.slice none 0 0], []⟩ 12 (by kernel_rfl) (by kernel_rfl) (by kernel_rfl) (by kernel_rfl)) ?_
 intro W base args ds gs before hval0 hW hcnd _
 have hval : ∀ (j : Nat) t v, Tryz.f3.params[j]? = some t -> args[j]? = some v -> Value.okWide Tryz.prog W .any base t v := hval0
 have hW' := hW
 obtain ⟨p, q, hA0, hV, rfl, hfz, hnd⟩ := hW
 obtain ⟨rfl, rfl⟩ := trodVars_none hV
 have hA : DataW.TrodAll enc Tryz.prog W 0 (fun _ => true) true Tryz.f3.params.toList args.toList ds p := hA0
 rw [Tryz.params3] at hA hval
 have hA2 := hA
 clear hA0 hval0
 obtain ⟨v0, vs0, d0, ds0, p0, q0, hargs0, rfl, rfl, h0, r0⟩ := trodAll_cons hA
 obtain ⟨rfl, rfl, rfl⟩ := trodAll_nil r0
 obtain rfl : args = #[v0] := by cases args; simp_all
 obtain ⟨a0, c0⟩ := (let ⟨fuel, hf⟩ := h0; Y1ds (C := Ydi) Tryz.underlying22 (by rw [show Tryz.prog.cellsOf 5 = 1 from by kernel_rfl]; decide) (fun a => by kernel_rfl) (fun m hm cs x h => Y1gd Tryz.underlying5 h) hf)
 have s0 : Yea W (Yxd W) (Yep []) (ll (a0.map Ydi)) v0 := Y1fo (by obtain ⟨_, _, _, rfl⟩ := okWide_slice Tryz.underlying22 (hval 0 22 v0 rfl rfl); rfl) c0
 refine (Ygd.kept (w := W) (vals := #[v0]) (Zcy a0) (Kn.none (by kernel_rfl) (by kernel_rfl)) ⟨s0, trivial⟩).mono fun e W' ⟨he, hg, _⟩ => ?_
 subst he
 exact ⟨_, rfl, Y11n (pv := []) hW' (fun _ _ _ => (trodAll_cons_mk (shut_bool Tryz.underlying4 _) trodAll_mk0))
  (fun sp hsp => Yrh Y1ma Y1kc Y1l1 hg (by decide +kernel) hA2 fun y hy => hsp y (by simpa using hy)) (fun _ _ => rfl) rfl
  hg (ok_one (by kernel_rfl) rfl (okWide_bool_mk Tryz.underlying4 _))⟩
set_option maxRecDepth 100000 in
set_option maxHeartbeats 0 in
theorem Y1l3 : joinedFacts Tryz.pinned.checked.prog 3 Tryz.f3 Rows.fnRebuiltSpec Rows.fnRebuiltRow = true := by
 delta joinedFacts
 with_reducible repeat' apply Y1kn
 all_goals (first | with_reducible exact Y1ho | (rw [Y1l5]; kernel_rfl) | (rw [Y1km]; kernel_rfl) | decide +kernel)
theorem Y1m7 : Rows.fnRebuiltRow.holds Tryz.pinned (OpenSpec.ofChange Rows.fnRebuiltSpec) :=
 OpenClaim.holds_of_wide 3 Tryz.f3 rfl rfl rfl rfl rfl rfl rfl ⟨rfl, rfl, rfl, rfl, rfl⟩ rfl rfl rfl rfl rfl (by kernel_rfl) Tryz.func3 Y1l3
  (of_decide_eq_true (by kernel_rfl)) (by unfold Func.isWrapper; first | (rw [if_pos (by decide +kernel)]; kernel_rfl) | (rw [if_neg (by decide +kernel)]; exact ⟨rfl, rfl⟩))
  (fun os started H enc _ => Y1id os started H enc)
theorem proved : Rows.FnRebuiltSaid :=
 Y1m7
end Go.Proofs.YtclpofblehlojaaGreat.fnRebuilt
end
