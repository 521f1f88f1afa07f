/- Part 3 of a proof. No condition. -/
import Derived.Test.YtclpofblehlojaaGreatReb2
set_option linter.unusedVariables false
set_option linter.unusedSimpArgs false
section
namespace Go.Proofs.YtclpofblehlojaaGreat
open Go Ab
set_option maxHeartbeats 4000000
abbrev Z9a (L : List Int) (n : Int) : Ct := ⟨129, [], [ll (L.map Yd2), li n], [], .sv (lb (decide (n ∈ L)))⟩
def Z4f (L : List Int) (n : Int) : Lp Nat := .mk 17 0 (fun x => [(1, li n), (7, ll (L.map Yd2)), (8, li (↑(L.map Yd2).length : Int)), (9, hs x 0)]) (fun x => [])
 (fun k => [.s (li (k : Int))]) (fun k => k <= L.length /\ L.length <= 9223372036854775807 /\ decide (n ∈ L.take k) = false) (fun k => L.length - k) [.mk (decide (n ∈ L) = false)
 (.exit 0) (fun x => []) (fun x => []) [], .mk (decide (n ∈ L) = true) .ret (fun x => [(4, hs x 0)]) (fun x => []) [.s (lb true)]]
theorem Zbf (L : List Int) (n : Int) : Lp.Sem Tryz.prog (Ydg Tryz.f129 0) (Z4f L n) := Ydr (fun k => .i ((k : Int) < (↑(L.map Yd2).length : Int)) (.x (↑k :
 Int) (L.map Yd2) [cI (L.getD k 0)] (.i (L.getD k 0 = n) (.o 1 [] [.s (lb true)]) (.r ((k : Int) + 1) (.g [] (k + 1) [.s (li ((k : Int) + 1))])))) (.o 0 [] [])) (by
 intro k h; try dsimp only [Yd3, Ydb, Z4f] at h ⊢
 with_reducible repeat' (first | apply And.intro | exact zR | (intro))
 all_goals ((try simp only [std, inj] at *); with_reducible and_intros)
 all_goals try first | exact z | grind [Ydn, Yd6, Yd7, Yd8, Yd4])
theorem Zcx (L : List Int) (n : Int)  : Z9a L n := Yde Tryz.call129 Tryz.func129 (.z Yd2 L (.l (Z4f L n) (Zbf L n) [] [.s (li 0)] 0 (.t (.s (lb false)) (.t (.s
 (lb true)) .q)))) (by
 dsimp only [Yd3, Z9a, Ydb, Z4f]
 exact zV)
abbrev Z80 (L : List Int) (n : Int) : Ct := ⟨172, [], [ll (L.map Yd2), li n], [], .sv (lb (decide (n ∈ L)))⟩
def Z3k (L : List Int) (n : Int) : Lp Nat := .mk 17 0 (fun x => [(1, li n), (7, ll (L.map Yd2)), (8, li (↑(L.map Yd2).length : Int)), (9, hs x 0)]) (fun x => [])
 (fun k => [.s (li (k : Int))]) (fun k => k <= L.length /\ L.length <= 9223372036854775807 /\ decide (n ∈ L.take k) = false) (fun k => L.length - k) [.mk (decide (n ∈ L) = false)
 (.exit 0) (fun x => []) (fun x => []) [], .mk (decide (n ∈ L) = true) .ret (fun x => [(4, hs x 0)]) (fun x => []) [.s (lb true)]]
theorem Zag (L : List Int) (n : Int) : Lp.Sem Tryz.prog (Ydg Tryz.f172 0) (Z3k L n) := Ydr (fun k => .i ((k : Int) < (↑(L.map Yd2).length : Int)) (.x (↑k :
 Int) (L.map Yd2) [cI (L.getD k 0)] (.i (L.getD k 0 = n) (.o 1 [] [.s (lb true)]) (.r ((k : Int) + 1) (.g [] (k + 1) [.s (li ((k : Int) + 1))])))) (.o 0 [] [])) (by
 intro k h; try dsimp only [Yd3, Ydb, Z3k] at h ⊢
 with_reducible repeat' (first | apply And.intro | exact zR | (intro))
 all_goals ((try simp only [std, inj] at *); with_reducible and_intros)
 all_goals try first | exact z | grind [Ydn, Yd6, Yd7, Yd8, Yd4])
theorem Zcn (L : List Int) (n : Int)  : Z80 L n := Yde Tryz.call172 Tryz.func172 (.z Yd2 L (.l (Z3k L n) (Zag L n) [] [.s (li 0)] 0 (.t (.s (lb false)) (.t
 (.s (lb true)) .q)))) (by
 dsimp only [Yd3, Z80, Ydb, Z3k]
 exact zV)
def Ygb (A B : List Int) : Bool := A.all fun n => decide (n ∈ B)
abbrev Z9b (A : List Int) (B : List Int) : Ct := ⟨214, [], [ll (A.map Yd2), ll (B.map Yd2)], [], .sv (lb (Ygb A B))⟩
def Z4g (A : List Int) (B : List Int) : Lp Nat := .mk 18 0 (fun x => [(1, ll (B.map Yd2)), (7, ll (A.map Yd2)), (8, li (↑(A.map Yd2).length : Int)), (9, hs
 x 0)]) (fun x => []) (fun k => [.s (li (k : Int))]) (fun k => k <= A.length /\ A.length <= 9223372036854775807 /\ Ygb (A.take k) B = true) (fun k => A.length - k) [.mk (Ygb A
 B = true) (.exit 0) (fun x => []) (fun x => []) [], .mk (Ygb A B = false) .ret (fun x => [(4, hs x 0)]) (fun x => []) [.s (lb false)]]
theorem Zbg (A : List Int) (B : List Int) : Lp.Sem Tryz.prog (Ydg Tryz.f214 0) (Z4g A B) := Ydr (fun k => .i ((k : Int) < (↑(A.map Yd2).length : Int)) (.x
 (k : Int) (A.map Yd2) [cI (A.getD k 0)] (.c [.rd, .rd] (Zcx B (A.getD k 0)) (.b (!decide (A.getD k 0 ∈ B)) (.o 1 [] [.s (lb false)]) (.r ((k : Int) + 1) (.g [] (k + 1)
 [.s (li ((k : Int) + 1))]))))) (.o 0 [] [])) (by
 intro k h; try dsimp only [Yd3, Ydb, Z4g] at h ⊢
 with_reducible repeat' (first | apply And.intro | exact zR | (intro))
 all_goals ((try simp only [std, inj] at *); with_reducible and_intros)
 all_goals try first | exact z | grind [Ydn, Yd6, Ygb, Yd7, Yd8, Yd4])
theorem Zbh (A B : List Int)  : Z9b A B := Yde Tryz.call214 Tryz.func214 (.z Yd2 A (.l (Z4g A B) (Zbg A B) [] [.s (li 0)] 0 (.t (.s (lb true)) (.t (.s (lb
 false)) .q)))) (by
 dsimp only [Yd3, Z9b, Ydb, Z4g]
 with_reducible repeat' (first | apply And.intro | exact zR | (intro))
 all_goals ((try simp only [std, inj] at *); with_reducible and_intros)
 all_goals try first | exact z | grind [Ygb, Yd7, Yd8, Yd4])
abbrev Z9c (A : List Int) (B : List Int) : Ct := ⟨211, [], [ll (A.map Yd2), ll (B.map Yd2)], [], .sv (lb (Ygb A B))⟩
def Z4h (A : List Int) (B : List Int) : Lp Nat := .mk 18 0 (fun x => [(1, ll (B.map Yd2)), (7, ll (A.map Yd2)), (8, li (↑(A.map Yd2).length : Int)), (9, hs
 x 0)]) (fun x => []) (fun k => [.s (li (k : Int))]) (fun k => k <= A.length /\ A.length <= 9223372036854775807 /\ Ygb (A.take k) B = true) (fun k => A.length - k) [.mk (Ygb A
 B = true) (.exit 0) (fun x => []) (fun x => []) [], .mk (Ygb A B = false) .ret (fun x => [(4, hs x 0)]) (fun x => []) [.s (lb false)]]
theorem Zbi (A : List Int) (B : List Int) : Lp.Sem Tryz.prog (Ydg Tryz.f211 0) (Z4h A B) := Ydr (fun k => .i ((k : Int) < (↑(A.map Yd2).length : Int)) (.x
 (k : Int) (A.map Yd2) [cI (A.getD k 0)] (.c [.rd, .rd] (Zcn B (A.getD k 0)) (.b (!decide (A.getD k 0 ∈ B)) (.o 1 [] [.s (lb false)]) (.r ((k : Int) + 1) (.g [] (k + 1)
 [.s (li ((k : Int) + 1))]))))) (.o 0 [] [])) (by
 intro k h; try dsimp only [Yd3, Ydb, Z4h] at h ⊢
 with_reducible repeat' (first | apply And.intro | exact zR | (intro))
 all_goals ((try simp only [std, inj] at *); with_reducible and_intros)
 all_goals try first | exact z | grind [Ydn, Yd6, Ygb, Yd7, Yd8, Yd4])
theorem Z9d (A B : List Int)  : Z9c A B := Yde Tryz.call211 Tryz.func211 (.z Yd2 A (.l (Z4h A B) (Zbi A B) [] [.s (li 0)] 0 (.t (.s (lb true)) (.t (.s (lb
 false)) .q)))) (by
 dsimp only [Yd3, Z9c, Ydb, Z4h]
 with_reducible repeat' (first | apply And.intro | exact zR | (intro))
 all_goals ((try simp only [std, inj] at *); with_reducible and_intros)
 all_goals try first | exact z | grind [Ygb, Yd7, Yd8, Yd4])
def Ykc (t : ByteArray) (s : List Int) (b : YB) : Bool := decide (b.text = t) && Ygb b.scopes s
def cnd (L : List YB) (t : ByteArray) (s : List Int) : List YB := L.filter (Ykc t s)
theorem Y125 {L : List YB} {t : ByteArray} {s : List Int} {k : Nat} (h : k < L.length) : cnd (L.take (k + 1)) t s = if Ykc t s (L.getD k default) = true then cnd (L.take k) t s ++ [L.getD k default] else cnd (L.take k) t s := by
 unfold cnd; rw [Ydn h, List.filter_append]
 by_cases e : Ykc t s (L.getD k default) = true
 ·rw [if_pos e, List.filter_cons_of_pos e]; rfl
 ·rw [if_neg e, List.filter_cons_of_neg e]; simp
theorem Y1fj (L : List YB) (t : ByteArray) (s : List Int) (k : Nat) : (cnd (L.take k) t s).length <= k := by
 have h1 := List.length_filter_le (Ykc t s) (L.take k)
 have h2 : (L.take k).length <= k := by rw [List.length_take]; exact Nat.min_le_left _ _
 unfold cnd; omega
abbrev Z5t (L : List YB) (y : YS) : Ct := ⟨213, [], [ll (L.map Yd1), Ydl y], [], .sv (ll ((cnd L y.text y.scopes).map Yd1))⟩
def Z3l (L : List YB) (y : YS) : Lp Nat := .mk 33 0 (fun x => [(3, .one (.ptr 0 0)), (5, .one (.ref 1)), (9, ll (L.map Yd1)), (10, li (↑(List.map
 Yd1 L).length : Int)), (11, hs x 0)]) (fun x => [.box (vals (Yda y)), ho x 1]) (fun k => [.s (li (k : Int)), .o (.arr false 4 ((cnd (L.take k)
 y.text y.scopes).map Yd1))]) (fun k => k <= L.length /\ L.length <= 9223372036854775807) (fun k => L.length - k) [.mk True (.exit 0) (fun x => [(5, .one (.ref 0))]) (fun x => [ho x 0])
 [.o (.arr false 4 ((cnd L y.text y.scopes).map Yd1))]]
theorem Zah (L : List YB) (y : YS) (h : L.length <= 1048577) : Lp.Sem Tryz.prog (Ydg Tryz.f213 0) (Z3l L y) := Ydr (fun k => .i ((k : Int) < (↑(List.map
 Yd1 L).length : Int)) (.x (k : Int) (L.map Yd1) (Ydq (L.getD k default)) (.i ((L.getD k default).text.data.toList = y.text.data.toList) (.c [.rd, .rd] (Zbh
 (L.getD k default).scopes y.scopes) (.b (Ygb (L.getD k default).scopes y.scopes) (.p ((((cnd (L.take k) y.text y.scopes).map Yd1).length + 1) * 56 <=
 140737488355328) (.r ((k : Int) + 1) (.g [0, 4] (k + 1) [.s (li ((k : Int) + 1)), .o (.arr false 4 ((cnd (L.take k) y.text y.scopes).map Yd1 ++ [Ydq
 (L.getD k default)]))]))) (.r ((k : Int) + 1) (.g [0, 1] (k + 1) [.s (li ((k : Int) + 1)), .o (.arr false 4 ((cnd (L.take k) y.text y.scopes).map Yd1))])))) (.y
 false (.r ((k : Int) + 1) (.g [0, 1] (k + 1) [.s (li ((k : Int) + 1)), .o (.arr false 4 ((cnd (L.take k) y.text y.scopes).map Yd1))]))))) (.o 0 [1] [.o (.arr
 false 4 ((cnd (L.take k) y.text y.scopes).map Yd1))])) (by
 intro k h; try dsimp only [Yd3, Ydb, Z3l] at h ⊢
 have g1 := @Y125 L y.text y.scopes k
 have g2 := Y1fj L y.text y.scopes k
 have g3 : L.length <= k -> L.take k = L := fun h => List.take_of_length_le h
 with_reducible repeat' (first | apply And.intro | exact zR | (intro))
 all_goals ((try simp only [std, inj] at *); with_reducible and_intros)
 all_goals try first | exact z | grind [Ykc, Yh2, Yd7, Yd8, Yd4])
theorem Z3s (L : List YB) (y : YS) (h : L.length <= 1048577)  : Z5t L y := Yde Tryz.call213 Tryz.func213 (.w (.bool true) (.z Yd1 L (.l (Z3l L y)
 (Zah L y h) [0, 1] [.s (li 0), .o (.arr false 4 [])] 0 (.t (.w (.ghost (.lock 0)) (.s (ll ((cnd L y.text y.scopes).map Yd1)))) .q)))) (by
 dsimp only [Yd3, Z5t, Ydb, Z3l]
 have g1 : cnd (L.take 0) y.text y.scopes = [] := rfl
 exact zV)
def Yih (a b : YB) : YB := if a.scopes.length < b.scopes.length then b else a
def Yf1 (C : List YB) : YB := C.foldl Yih (C.getD 0 default)
theorem Y1c2 (x : YB) : Yf1 [x] = x := by simp [Yf1, Yih]
theorem Yym {C : List YB} (x : YB) (h : C ≠ []) : Yf1 (C ++ [x]) = Yih (Yf1 C) x := by
 cases C with
 | nil => exact absurd rfl h
 | cons a r => simp only [Yf1, List.foldl_append]; rfl
def amb (C : List YB) : Bool := C.all fun b => Ygb b.scopes (Yf1 C).scopes
def rsC (L : List YB) (t : ByteArray) (s : List Int) : Int := if cnd L t s = [] then 0 else if amb (cnd L t s) = true then 1 else 2
def rsB (L : List YB) (t : ByteArray) (s : List Int) : YB := if rsC L t s = 1 then Yf1 (cnd L t s) else ⟨mkS [], [], 0, 0⟩
theorem Y1da {C : List YB} : ∀ (a : YB), C.foldl Yih a = a ∨ C.foldl Yih a ∈ C := by
 induction C with
 | nil => intro a; exact .inl rfl
 | cons x r ih =>
  intro a
  rw [List.foldl_cons]
  rcases ih (Yih a x) with h | h
  ·rw [h]; unfold Yih; split
   ·exact .inr List.mem_cons_self
   ·exact .inl rfl
  ·exact .inr (List.mem_cons_of_mem _ h)
theorem Y1dh {C : List YB} (h : C ≠ []) : Yf1 C ∈ C := by
 cases C with
 | nil => exact absurd rfl h
 | cons a r =>
  rcases Y1da (C := a :: r) ((a :: r).getD 0 default) with h | h
  ·unfold Yf1; rw [h]; exact List.mem_cons_self
  ·exact h
theorem Y1kt (L : List YB) (t : ByteArray) (s : List Int) : sumBy wB (cnd L t s) <= sumBy wB L := by
 induction L with
 | nil => exact Nat.le_refl _
 | cons x r ih =>
  unfold cnd at ih ⊢
  by_cases e : Ykc t s x = true
  ·rw [List.filter_cons_of_pos e]; simp only [sumBy]; omega
  ·rw [List.filter_cons_of_neg e]; simp only [sumBy]; omega
theorem Y19u {L : List YB} {t : ByteArray} {s : List Int} (h : cnd L t s ≠ []) : wB (Yf1 (cnd L t s)) <= sumBy wB L := by
 have h1 := Yew wB (Y1dh h)
 have h2 := Y1kt L t s
 omega
theorem Y1dm {C : List YB} {k : Nat} (hk : k < C.length) (h : Ygb (C.getD k default).scopes (Yf1 C).scopes = false) : amb C = false := by
 unfold amb; rw [List.all_eq_false]; exact ⟨_, Yd6 hk, by rw [h]; decide⟩
def Yt8 (C : List YB) (k : Nat) : Bool := (C.take k).all fun b => Ygb b.scopes (Yf1 C).scopes
theorem Y1az {C : List YB} {k : Nat} (hk : k < C.length) (h0 : Yt8 C k = true) (h : Ygb (C.getD k default).scopes (Yf1 C).scopes = true) : Yt8 C (k + 1) = true := by
 unfold Yt8 at *; rw [Ydn hk, List.all_append, h0]; simpa using h
theorem Y1bn {C : List YB} {k : Nat} (hk : C.length <= k) (h0 : Yt8 C k = true) : amb C = true := by
 unfold Yt8 at h0; rwa [List.take_of_length_le hk] at h0
abbrev Z5a (L : List YB) (y : YS) : Ct := ⟨170, [], [ll (L.map Yd1), Ydl y], [], .tup [Yml (rsB L y.text y.scopes), li (rsC L y.text y.scopes)]⟩
def Z4i (L : List YB) (y : YS) : Lp Nat := .mk 56 0 (fun x => [(4, .one (.ptr 0 0)), (7, .one (.ptr 1 0)), (37, ll ((cnd L y.text
 y.scopes).map Yd1)), (38, li (↑((cnd L y.text y.scopes).map Yd1).length : Int)), (39, hs x 0)]) (fun x => [.box [vS (ByteArray.mk #[]), .val (.lit (.slice none 0
 0)), vI 0, vI 0], .box (vals (Ydq (Yf1 (cnd L y.text y.scopes))))]) (fun k => [.s (li (k : Int))]) (fun k => k <= (cnd L y.text y.scopes).length /\ (cnd L y.text
 y.scopes).length <= 9223372036854775807 /\ 0 < (cnd L y.text y.scopes).length /\ Yt8 (cnd L y.text y.scopes) k = true) (fun k => (cnd L y.text y.scopes).length - k) [.mk (amb (cnd L
 y.text y.scopes) = true) (.exit 2) (fun x => [(4, .one (.ptr 0 0)), (7, .one (.ptr 1 0))]) (fun x => [.box [vS (ByteArray.mk #[]), .val (.lit (.slice none 0
 0)), vI 0, vI 0], .box (vals (Ydq (Yf1 (cnd L y.text y.scopes))))]) [], .mk (amb (cnd L y.text y.scopes) = false) .ret (fun x => [(4, .one (.ptr 0 0)), (5, hs x 1)])
 (fun x => [ho x 0]) [.o (.box [vS (mkS []), .val (.lit (.slice none 0 0)), vI 0, vI 0]), .s (li 2)]]
def Z4j (L : List YB) (y : YS) : Lp Nat := .mk 56 0 (fun x => [(4, .one (.ptr 0 0)), (6, ll ((cnd L y.text y.scopes).map Yd1)), (7, .one (.ptr 1
 0)), (22, ll ((cnd L y.text y.scopes).map Yd1)), (23, li (↑((cnd L y.text y.scopes).map Yd1).length : Int)), (24, hs x 0)]) (fun x => [.box [vS (ByteArray.mk
 #[]), .val (.lit (.slice none 0 0)), vI 0, vI 0], ho x 1]) (fun k => [.s (li (k : Int)), .o (.box (vals (Ydq (List.foldl Yih ((cnd L y.text y.scopes).getD 0
 default) (List.take k (cnd L y.text y.scopes))))))]) (fun k => k <= (cnd L y.text y.scopes).length /\ (cnd L y.text y.scopes).length <= 9223372036854775807 /\ 0 < (cnd L y.text
 y.scopes).length) (fun k => (cnd L y.text y.scopes).length - k) [.mk True (.exit 0) (fun x => [(4, .one (.ptr 0 0)), (6, ll ((cnd L y.text y.scopes).map Yd1)), (7,
 .one (.ptr 1 0))]) (fun x => [.box [vS (ByteArray.mk #[]), .val (.lit (.slice none 0 0)), vI 0, vI 0], ho x 0]) [.o (.box (vals (Ydq (Yf1 (cnd L y.text
 y.scopes)))))]]
theorem Zbj (L : List YB) (y : YS) (h : L.length <= 1048577 /\ sumBy wB L <= 1048577) : Lp.Sem Tryz.prog (Ydg Tryz.f170 1) (Z4i L y) := Ydr (fun k => .i ((↑k
 : Int) < (↑((cnd L y.text y.scopes).map Yd1).length : Int)) (.x (k : Int) ((cnd L y.text y.scopes).map Yd1) (Ydq ((cnd L y.text y.scopes).getD k
 default)) (.c [.rd, .rd] (Zbh ((cnd L y.text y.scopes).getD k default).scopes (Yf1 (cnd L y.text y.scopes)).scopes) (.b (!Ygb ((cnd L y.text y.scopes).getD k default).scopes
 (Yf1 (cnd L y.text y.scopes)).scopes) (.o 1 [0] [.o (.box [vS (ByteArray.mk #[]), .val (.lit (.slice none 0 0)), vI 0, vI 0]), .s (li 2)]) (.r ((k : Int) + 1) (.g
 [0, 1] (k + 1) [.s (li ((k : Int) + 1))]))))) (.o 0 [0, 1] [])) (by
 intro k h; try dsimp only [Yd3, Ydb, Z4i] at h ⊢
 have g1 := @Y1dm (cnd L y.text y.scopes) k
 have g2 := @Y1az (cnd L y.text y.scopes) k
 have g3 := @Y1bn (cnd L y.text y.scopes) k
 with_reducible repeat' (first | apply And.intro | exact zR | (intro) | apply Z3s | apply Z2u)
 all_goals ((try simp only [std, inj] at *); with_reducible and_intros)
 all_goals try with_reducible first | apply Z3s | apply Z2u
 all_goals (try exact zG))
theorem Zbk (L : List YB) (y : YS) (h : L.length <= 1048577 /\ sumBy wB L <= 1048577) : Lp.Sem Tryz.prog (Ydg Tryz.f170 0) (Z4j L y) := Ydr (fun k => .i ((↑k
 : Int) < (↑((cnd L y.text y.scopes).map Yd1).length : Int)) (.x (k : Int) ((cnd L y.text y.scopes).map Yd1) (Ydq ((cnd L y.text y.scopes).getD k
 default)) (.z Yd2 ((cnd L y.text y.scopes).getD k default).scopes (.z Yd2 (List.foldl Yih ((cnd L y.text y.scopes).getD 0 default) (List.take k (cnd L y.text y.scopes))).scopes
 (.i ((↑((List.foldl Yih ((cnd L y.text y.scopes).getD 0 default) (List.take k (cnd L y.text y.scopes))).scopes.map Yd2).length : Int) < (↑(((cnd L y.text
 y.scopes).getD k default).scopes.map Yd2).length : Int)) (.r ((k : Int) + 1) (.g [0, 1] (k + 1) [.s (li ((k : Int) + 1)), .o (.box (vals (Ydq ((cnd L y.text y.scopes).getD k
 default))))])) (.r ((k : Int) + 1) (.g [0, 1] (k + 1) [.s (li ((k : Int) + 1)), .o (.box (vals (Ydq (List.foldl Yih ((cnd L y.text y.scopes).getD 0 default) (List.take k
 (cnd L y.text y.scopes))))))])))))) (.o 0 [0, 1] [.o (.box (vals (Ydq (List.foldl Yih ((cnd L y.text y.scopes).getD 0 default) (List.take k (cnd L y.text y.scopes))))))]))
 (by
 intro k h; try dsimp only [Yd3, Ydb, Z4j] at h ⊢
 have g1 := @Ylv _ _ _ Yih ((cnd L y.text y.scopes).getD 0 default) (cnd L y.text y.scopes) k
 have g2 : ∀ a b, Yih a b = if a.scopes.length < b.scopes.length then b else a := fun _ _ => rfl
 have g3 : (cnd L y.text y.scopes).length <= k -> (cnd L y.text y.scopes).take k = cnd L y.text y.scopes := fun h => List.take_of_length_le h
 have g4 : Yf1 (cnd L y.text y.scopes) = (cnd L y.text y.scopes).foldl Yih ((cnd L y.text y.scopes).getD 0 default) := rfl
 with_reducible repeat' (first | apply And.intro | exact zR | (intro) | apply Z3s | apply Z2u)
 all_goals ((try simp only [std, inj] at *); with_reducible and_intros)
 all_goals try with_reducible first | apply Z3s | apply Z2u
 all_goals (try exact zG))
theorem Zbl (L : List YB) (y : YS) (h : L.length <= 1048577 /\ sumBy wB L <= 1048577)  : Z5a L y := Yde Tryz.call170 Tryz.func170 (.d [.rd, .rd] (Z5t L y) (.z
 Yd1 (cnd L y.text y.scopes) (.i ((↑((cnd L y.text y.scopes).map Yd1).length : Int) = 0) (.w (.ghost (.nilbox 1 1 true 1)) (.w (.ghost (.lock 2)) (.f [] [] (.tup
 [.agg [vS (ByteArray.mk #[]), vL [], vI 0, vI 0], li 0])))) (.w (.cells (Ydq ((cnd L y.text y.scopes).getD 0 default))) (.p ((0 : Int) <= 0 /\ ((cnd L
 y.text y.scopes).map Yd1)[0]? = some (Ydq ((cnd L y.text y.scopes).getD 0 default))) (.z Yd1 (cnd L y.text y.scopes) (.l (Z4j L y) (Zbk L y h) [1, 2] [.s (li 0), .o
 (.box (vals (Ydq ((cnd L y.text y.scopes).getD 0 default))))] 0 (.t (.z Yd1 (cnd L y.text y.scopes) (.l (Z4i L y) (Zbj L y h) [0, 1] [.s (li 0)] 0 (.t (.d
 [.rd] (Z59 [Yf1 (cnd L y.text y.scopes)]) (.p ((0 : Int) <= 0 /\ 0 < 1) (.w (.cells (Ydq (Yf1 (cnd L y.text y.scopes)))) (.p (some (Ydq (Yf1 (cnd L y.text
 y.scopes))) = some (Ydq (Yf1 (cnd L y.text y.scopes)))) (.w (.ghost (.lock 3)) (.f [] [] (.tup [.agg (vals (Ydq (Yf1 (cnd L y.text y.scopes)))), li 1]))))))) (.t
 (.w (.ghost (.nilbox 0 1 true 1)) (.w (.ghost (.lock 1)) (.f [] [] (.tup [.agg [vS (mkS []), vL [], vI 0, vI 0], li 2])))) .q)))) .q)))))))) (by
 dsimp only [Yd3, Z5a, Ydb, Z4j, Z4i]
 have g1 : 0 < (cnd L y.text y.scopes).length -> cnd L y.text y.scopes ≠ [] := fun h => List.length_pos_iff.1 h
 have g2 : (cnd L y.text y.scopes).length = 0 -> cnd L y.text y.scopes = [] := fun h => List.length_eq_zero_iff.1 h
 have g3 := @Y19u L y.text y.scopes
 have g4 : rsC L y.text y.scopes = if cnd L y.text y.scopes = [] then 0 else if amb (cnd L y.text y.scopes) = true then 1 else 2 := rfl
 have g5 : rsC L y.text y.scopes = 1 -> rsB L y.text y.scopes = Yf1 (cnd L y.text y.scopes) := fun h => if_pos h
 have g6 : ¬ rsC L y.text y.scopes = 1 -> rsB L y.text y.scopes = ⟨mkS [], [], 0, 0⟩ := fun h => if_neg h
 have g7 : Yt8 (cnd L y.text y.scopes) 0 = true := rfl
 have g8 : ∀ b : YB, [b].getD 0 default = b := fun b => rfl
 have g9 : sumBy wB [Yf1 (cnd L y.text y.scopes)] = wB (Yf1 (cnd L y.text y.scopes)) := rfl
 have p1 : ¬ rsC L y.text y.scopes = 1 -> SV.agg [vS (mkS []), vL [], vI 0, vI 0] = SV.agg (vals (Ydq (rsB L y.text y.scopes))) := fun h => by rw [g6 h]; rfl
 have p2 : rsC L y.text y.scopes = 1 -> SV.agg [vS (Yf1 (cnd L y.text y.scopes)).text, vL ((Yf1 (cnd L y.text y.scopes)).scopes.map Yd2), vI (Yf1 (cnd L y.text y.scopes)).kind, vI (Yf1 (cnd L y.text y.scopes)).number] = SV.agg (vals (Ydq (rsB L y.text y.scopes))) := fun h => by rw [g5 h]; rfl
 with_reducible repeat' (first | apply And.intro | exact zR | (intro) | apply Z3s | apply Z2u)
 all_goals ((try simp only [std, inj] at *); with_reducible and_intros)
 all_goals try with_reducible first | apply Z3s | apply Z2u
 all_goals (try exact zG))
def bsI (L : List YB) (t : ByteArray) (s : List Int) : Nat -> Int
 | 0 => -1
 | k + 1 => if Ykc t s (L.getD k default) = true /\ (bsI L t s k < 0 ∨ (L.getD (bsI L t s k).toNat default).scopes.length < (L.getD k default).scopes.length) then (k : Int) else bsI L t s k
theorem Yvs (L : List YB) (t : ByteArray) (s : List Int) : ∀ k, k <= L.length -> -1 <= bsI L t s k /\ bsI L t s k < k /\ (bsI L t s k < 0 ↔ cnd (L.take k) t s = []) /\ (0 <= bsI L t s k -> L.getD (bsI L t s k).toNat default = Yf1 (cnd (L.take k) t s))
 | 0, _ => by simp [bsI, cnd]
 | k + 1, hk => by
  obtain ⟨h1, h2, h3, h4⟩ := Yvs L t s k (by omega)
  have e := @Y125 L t s k (by omega)
  simp only [bsI]
  by_cases c : Ykc t s (L.getD k default) = true
  ·rw [if_pos c] at e
   by_cases c2 : bsI L t s k < 0
   ·rw [if_pos ⟨c, .inl c2⟩, e, h3.1 c2]
    refine ⟨by omega, by omega, ⟨fun h => by omega, fun h => by simp at h⟩, fun _ => ?_⟩
    rw [Int.toNat_natCast, List.nil_append, Y1c2]
   ·have hne : cnd (L.take k) t s ≠ [] := fun h => c2 (h3.2 h)
    have hb := h4 (by omega)
    by_cases c3 : (L.getD (bsI L t s k).toNat default).scopes.length < (L.getD k default).scopes.length
    ·rw [if_pos ⟨c, .inr c3⟩, e]
     refine ⟨by omega, by omega, ⟨fun h => by omega, fun h => by simp at h⟩, fun _ => ?_⟩
     rw [Int.toNat_natCast, Yym _ hne, Yih, if_pos (by rw [<- hb]; exact c3)]
    ·rw [if_neg (by rintro ⟨_, h | h⟩ <;> contradiction), e]
     refine ⟨h1, by omega, ⟨fun h => absurd h c2, fun h => by simp at h⟩, fun _ => ?_⟩
     rw [Yym _ hne, Yih, if_neg (by rw [<- hb]; exact c3)]; exact hb
  ·rw [if_neg (fun h => c h.1), e, if_neg c]
   exact ⟨h1, by omega, h3, h4⟩
def Ytf (L : List YB) (t : ByteArray) (s : List Int) (k : Nat) : Bool := (L.take k).all fun b => !Ykc t s b || Ygb b.scopes (Yf1 (cnd L t s)).scopes
theorem Y1bd {L : List YB} {t : ByteArray} {s : List Int} {k : Nat} (hk : k < L.length) (h0 : Ytf L t s k = true) (h : Ykc t s (L.getD k default) = false ∨ Ygb (L.getD k default).scopes (Yf1 (cnd L t s)).scopes = true) : Ytf L t s (k + 1) = true := by
 unfold Ytf at *; rw [Ydn hk, List.all_append, h0]; simpa using h
theorem Y1e3 {L : List YB} {t : ByteArray} {s : List Int} {k : Nat} (hk : L.length <= k) (h0 : Ytf L t s k = true) : amb (cnd L t s) = true := by
 unfold Ytf at h0; rw [List.take_of_length_le hk, List.all_eq_true] at h0
 unfold amb; rw [List.all_eq_true]
 intro x hx
 have h1 := List.mem_filter.1 hx
 have := h0 x h1.1
 rw [h1.2] at this; simpa using this
theorem Y1be {L : List YB} {t : ByteArray} {s : List Int} {k : Nat} (hk : k < L.length) (h1 : Ykc t s (L.getD k default) = true) (h : Ygb (L.getD k default).scopes (Yf1 (cnd L t s)).scopes = false) : amb (cnd L t s) = false := by
 unfold amb; rw [List.all_eq_false]; exact ⟨_, List.mem_filter.2 ⟨Yd6 hk, h1⟩, by rw [h]; decide⟩
abbrev Z5b (L : List YB) (y : YS) : Ct := ⟨167, [], [ll (L.map Yd1), Ydl y], Y10n (rsB L y.text y.scopes), .tup [Y12a (rsB L y.text y.scopes) 0, li (rsC L y.text y.scopes)]⟩
def Z4k (L : List YB) (y : YS) : Lp Nat := .mk 87 0 (fun x => [(0, ll (L.map Yd1)), (3, .one (.ptr 0 0)), (4, .one (.ptr 1 0)), (6, li (bsI L
 y.text y.scopes L.length)), (51, ll (L.map Yd1)), (52, li (↑(L.map Yd1).length : Int)), (53, hs x 0)]) (fun x => [.box (vals (Yda y)), .box [vS
 (ByteArray.mk #[]), .val (.lit (.slice none 0 0)), vI 0, vI 0]]) (fun k => [.s (li (k : Int))]) (fun k => k <= L.length /\ L.length <= 9223372036854775807 /\ 0 <= bsI L
 y.text y.scopes L.length /\ Ytf L y.text y.scopes k = true) (fun k => L.length - k) [.mk (amb (cnd L y.text y.scopes) = true) (.exit 2) (fun x => [(0, ll (L.map Yd1)),
 (4, .one (.ptr 0 0)), (6, li (bsI L y.text y.scopes L.length))]) (fun x => [.box [vS (ByteArray.mk #[]), .val (.lit (.slice none 0 0)), vI 0, vI 0]]) [], .mk (amb
 (cnd L y.text y.scopes) = false) .ret (fun x => [(4, .one (.ptr 0 0)), (5, hs x 1)]) (fun x => [ho x 0]) [.o (.box [vS (mkS []), .val (.lit (.slice none 0 0)), vI
 0, vI 0]), .s (li 2)]]
def Z4l (L : List YB) (y : YS) : Lp Nat := .mk 87 0 (fun x => [(0, ll (L.map Yd1)), (3, .one (.ptr 0 0)), (4, .one (.ptr 1 0)), (6, hs x 1), (11,
 ll (L.map Yd1)), (12, li (↑(L.map Yd1).length : Int)), (13, hs x 0)]) (fun x => [.box (vals (Yda y)), .box [vS (ByteArray.mk #[]), .val (.lit
 (.slice none 0 0)), vI 0, vI 0]]) (fun k => [.s (li (k : Int)), .s (li (bsI L y.text y.scopes k))]) (fun k => k <= L.length /\ L.length <= 9223372036854775807) (fun k =>
 L.length - k) [.mk True (.exit 0) (fun x => [(0, ll (L.map Yd1)), (3, .one (.ptr 0 0)), (4, .one (.ptr 1 0)), (6, hs x 0)]) (fun x => [.box (vals (Yda y)),
 .box [vS (ByteArray.mk #[]), .val (.lit (.slice none 0 0)), vI 0, vI 0]]) [.s (li (bsI L y.text y.scopes L.length))]]
theorem Zbm (L : List YB) (y : YS) (h : L.length <= 1048577 /\ sumBy wB L <= 1048577) : Lp.Sem Tryz.prog (Ydg Tryz.f167 1) (Z4k L y) := Ydr (fun k => .i ((↑k
 : Int) < (↑(L.map Yd1).length : Int)) (.x (k : Int) (L.map Yd1) (Ydq (L.getD k default)) (.w (.draw []) (.i ((L.getD k default).text.data.toList =
 y.text.data.toList) (.c [.rd, .rd] (Z9d (L.getD k default).scopes y.scopes) (.b (Ygb (L.getD k default).scopes y.scopes) (.x (bsI L y.text y.scopes L.length) (List.map
 Yd1 L) (Ydq (L.getD (bsI L y.text y.scopes L.length).toNat default)) (.c [.rd, .rd] (Z9d (L.getD k default).scopes (L.getD (bsI L y.text y.scopes L.length).toNat
 default).scopes) (.b (!Ygb (L.getD k default).scopes (L.getD (bsI L y.text y.scopes L.length).toNat default).scopes) (.o 1 [1] [.o (.box [vS (ByteArray.mk #[]), .val
 (.lit (.slice none 0 0)), vI 0, vI 0]), .s (li 2)]) (.r ((k : Int) + 1) (.g [0, 1] (k + 1) [.s (li ((k : Int) + 1))]))))) (.y false (.r ((k : Int) + 1) (.g [0, 1] (k +
 1) [.s (li ((k : Int) + 1))]))))) (.y false (.y false (.r ((k : Int) + 1) (.g [0, 1] (k + 1) [.s (li ((k : Int) + 1))]))))))) (.o 0 [1] [])) (by
 intro k h; try dsimp only [Yd3, Ydb, Z4k] at h ⊢
 have g1 := Yvs L y.text y.scopes L.length
 have g2 : L.take L.length = L := List.take_length
 have g3 := @Y1bd L y.text y.scopes k
 have g4 := @Y1e3 L y.text y.scopes k
 have g5 := @Y1be L y.text y.scopes k
 with_reducible repeat' (first | apply And.intro | exact zR | (intro) | apply Z28)
 all_goals ((try simp only [std, inj] at *); with_reducible and_intros)
 all_goals try with_reducible first | apply Z28
 all_goals try first | exact z | grind [Ykc, Yh2, Yd7, Yd8, Yd4])
theorem Zbn (L : List YB) (y : YS) (h : L.length <= 1048577 /\ sumBy wB L <= 1048577) : Lp.Sem Tryz.prog (Ydg Tryz.f167 0) (Z4l L y) := Ydr (fun k => .i ((↑k
 : Int) < (↑(L.map Yd1).length : Int)) (.x (k : Int) (L.map Yd1) (Ydq (L.getD k default)) (.w (.draw []) (.i ((L.getD k default).text.data.toList =
 y.text.data.toList) (.c [.rd, .rd] (Z9d (L.getD k default).scopes y.scopes) (.b (Ygb (L.getD k default).scopes y.scopes) (.i (bsI L y.text y.scopes k < 0) (.y true (.r ((↑k :
 Int) + 1) (.g [0, 1] (k + 1) [.s (li ((k : Int) + 1)), .s (li (k : Int))]))) (.x (bsI L y.text y.scopes k) (L.map Yd1) (Ydq (L.getD (bsI L y.text y.scopes
 k).toNat default)) (.z Yd2 (L.getD k default).scopes (.z Yd2 (L.getD (bsI L y.text y.scopes k).toNat default).scopes (.i ((↑((L.getD (bsI L y.text y.scopes
 k).toNat default).scopes.map Yd2).length : Int) < (↑((L.getD k default).scopes.map Yd2).length : Int)) (.r ((k : Int) + 1) (.g [0, 1] (k + 1) [.s (li ((k : Int) + 1)), .s (li (↑k
 : Int))])) (.r ((k : Int) + 1) (.g [0, 1] (k + 1) [.s (li ((k : Int) + 1)), .s (li (bsI L y.text y.scopes k))]))))))) (.y false (.r ((k : Int) + 1) (.g [0, 1] (k + 1) [.s (li
 ((k : Int) + 1)), .s (li (bsI L y.text y.scopes k))]))))) (.y false (.y false (.r ((k : Int) + 1) (.g [0, 1] (k + 1) [.s (li ((k : Int) + 1)), .s (li (bsI L y.text y.scopes
 k))]))))))) (.o 0 [0, 1] [.s (li (bsI L y.text y.scopes k))])) (by
 intro k h; try dsimp only [Yd3, Ydb, Z4l] at h ⊢
 have g1 := Yvs L y.text y.scopes k
 have g2 : bsI L y.text y.scopes (k + 1) = if Ykc y.text y.scopes (L.getD k default) = true /\ (bsI L y.text y.scopes k < 0 ∨ (L.getD (bsI L y.text y.scopes k).toNat default).scopes.length < (L.getD k default).scopes.length) then (k : Int) else bsI L y.text y.scopes k := rfl
 with_reducible repeat' (first | apply And.intro | exact zR | (intro) | apply Z28)
 all_goals ((try simp only [std, inj] at *); with_reducible and_intros)
 all_goals try with_reducible first | apply Z28
 all_goals try first | exact z | grind [Ykc, Yh2, Yd7, Yd8, Yd4])
theorem Zbo (L : List YB) (y : YS) (h : L.length <= 1048577 /\ sumBy wB L <= 1048577)  : Z5b L y := Yde Tryz.call167 Tryz.func167 (.z Yd1 L (.l (Z4l L y)
 (Zbn L y h) [0, 1] [.s (li 0), .s (li (-1 : Int))] 0 (.t (.i (bsI L y.text y.scopes L.length < 0) (.w (.ghost (.nilbox 1 1 true 1)) (.f [2] [.arr true 1 []] (.tup
 [.agg [vS (ByteArray.mk #[]), .ref 0, vI 0, vI 0], li 0]))) (.z Yd1 L (.l (Z4k L y) (Zbm L y h) [0, 1] [.s (li 0)] 0 (.t (.x (bsI L y.text y.scopes L.length)
 (L.map Yd1) (Ydq (L.getD (bsI L y.text y.scopes L.length).toNat default)) (.d [.rd] (Z4r (L.getD (bsI L y.text y.scopes L.length).toNat default)) (.f [1]
 [.arr true 1 ((L.getD (bsI L y.text y.scopes L.length).toNat default).scopes.map Yd2)] (.tup [.agg [vS (L.getD (bsI L y.text y.scopes L.length).toNat default).text,
 .ref 0, vI (L.getD (bsI L y.text y.scopes L.length).toNat default).kind, vI (L.getD (bsI L y.text y.scopes L.length).toNat default).number], li 1])))) (.t (.w (.ghost (.nilbox 0
 1 true 1)) (.f [1] [.arr true 1 []] (.tup [.agg [vS (mkS []), .ref 0, vI 0, vI 0], li 2]))) .q))))) .q))) (by
 dsimp only [Yd3, Z5b, Ydb, Z4l, Z4k]
 have g1 := Yvs L y.text y.scopes L.length
 have g2 : L.take L.length = L := List.take_length
 have g3 := @Y19u L y.text y.scopes
 have g4 : rsC L y.text y.scopes = if cnd L y.text y.scopes = [] then 0 else if amb (cnd L y.text y.scopes) = true then 1 else 2 := rfl
 have g5 : rsC L y.text y.scopes = 1 -> rsB L y.text y.scopes = Yf1 (cnd L y.text y.scopes) := fun h => if_pos h
 have g6 : ¬ rsC L y.text y.scopes = 1 -> rsB L y.text y.scopes = ⟨mkS [], [], 0, 0⟩ := fun h => if_neg h
 have g7 : Ytf L y.text y.scopes 0 = true := rfl
 have g8 : bsI L y.text y.scopes 0 = -1 := rfl
 with_reducible repeat' (first | apply And.intro | exact zR | (intro) | apply Z28)
 all_goals ((try simp only [std, inj] at *); with_reducible and_intros)
 all_goals try with_reducible first | apply Z28
 all_goals (try exact zG))
def mng (L : List YB) (a b : YS) : Bool := if rsC L a.text a.scopes = 0 /\ rsC L b.text b.scopes = 0 then decide (a.text = b.text) else decide (rsC L a.text a.scopes = 1) && decide (rsC L b.text b.scopes = 1) && decide ((rsB L a.text a.scopes).kind = (rsB L b.text b.scopes).kind) && decide ((rsB L a.text a.scopes).number = (rsB L b.text b.scopes).number)
abbrev Z5u (L : List YB) (a : YS) (b : YS) : Ct := ⟨98, [], [ll (L.map Yd1), Ydl a, Ydl b], [], .sv (lb (mng L a b))⟩
theorem Z7c (L : List YB) (a b : YS) (h : L.length <= 1048577 /\ sumBy wB L <= 1048577)  : Z5u L a b := Yde Tryz.call98 Tryz.func98 (.d [.rd, .rd] (Z5a L a) (.d
 [.rd, .rd] (Z5a L b) (.i (rsC L a.text a.scopes = 0) (.i (rsC L b.text b.scopes = 0) (.s (lb (decide (a.text.data.toList = b.text.data.toList)))) (.i (rsC L a.text a.scopes =
 1) (.i (rsC L b.text b.scopes = 1) (.i ((rsB L a.text a.scopes).kind = (rsB L b.text b.scopes).kind) (.s (lb (decide ((rsB L a.text a.scopes).number = (rsB L b.text
 b.scopes).number)))) (.s (lb false))) (.y false (.s (lb false)))) (.y false (.y false (.s (lb false)))))) (.y false (.i (rsC L a.text a.scopes = 1) (.i (rsC L b.text b.scopes = 1)
 (.i ((rsB L a.text a.scopes).kind = (rsB L b.text b.scopes).kind) (.s (lb (decide ((rsB L a.text a.scopes).number = (rsB L b.text b.scopes).number)))) (.s (lb false))) (.y false
 (.s (lb false)))) (.y false (.y false (.s (lb false))))))))) (by
 dsimp only [Yd3, Z5u]
 with_reducible repeat' (first | apply And.intro | exact zR | (intro) | apply Zbl)
 all_goals ((try simp only [std, inj] at *); with_reducible and_intros)
 all_goals try with_reducible first | apply Zbl
 all_goals try first | exact z | grind [mng, Yh2, Yd7, Yd8, Yd4])
abbrev Z5v (L : List YB) (a : YS) (b : YS) : Ct := ⟨90, [], [ll (L.map Yd1), Ydl a, Ydl b], [], .sv (lb (mng L a b))⟩
theorem Za1 (L : List YB) (a b : YS) (h : L.length <= 1048577 /\ sumBy wB L <= 1048577)  : Z5v L a b := Yde Tryz.call90 Tryz.func90 (.d [.rd, .rd] (Z5b L a) (.d
 [.rd, .rd] (Z5b L b) (.i (rsC L a.text a.scopes = 1) (.i (rsC L b.text b.scopes = 1) (.i ((rsB L a.text a.scopes).kind = (rsB L b.text b.scopes).kind) (.s (lb (decide ((rsB L
 a.text a.scopes).number = (rsB L b.text b.scopes).number)))) (.s (lb false))) (.i (rsC L a.text a.scopes = 0) (.i (rsC L b.text b.scopes = 0) (.s (lb (decide (a.text.data.toList =
 b.text.data.toList)))) (.s (lb false))) (.y false (.s (lb false))))) (.y false (.i (rsC L a.text a.scopes = 0) (.i (rsC L b.text b.scopes = 0) (.s (lb (decide (a.text.data.toList
 = b.text.data.toList)))) (.s (lb false))) (.y false (.s (lb false)))))))) (by
 dsimp only [Yd3, Z5v]
 with_reducible repeat' (first | apply And.intro | exact zR | (intro) | apply Zbo)
 all_goals ((try simp only [std, inj] at *); with_reducible and_intros)
 all_goals try with_reducible first | apply Zbo
 all_goals try first | exact z | grind [mng, Yh2, Yd7, Yd8, Yd4])
def Yje (p f : YS) : YC := ⟨p, 0, f, []⟩
mutual
/-- the variables of a pattern, in their order -/
def nm (H : YS -> Bool) (A : List YS -> Int) : YS -> Int -> List YC
 | ⟨k, n, t, s, l⟩, d => if k = 1 then (if Ye3 ⟨k, n, t, s, l⟩ = true ∨ H ⟨k, n, t, s, l⟩ = true then [] else [Ygh ⟨k, n, t, s, l⟩ d]) else if k = 0 then nms H A l 0 (A l) d else []
def nms (H : YS -> Bool) (A : List YS -> Int) : List YS -> Int -> Int -> Int -> List YC
 | [], _, _, _ => []
 | x :: r, i, a, d => (if i = a then [] else nm H A x (if i + 1 = a then d + 1 else d)) ++ nms H A r (i + 1) a d
end
theorem Ygm (H : YS -> Bool) (A : List YS -> Int) (p : YS) (d : Int) : nm H A p d = if p.kind = 1 then (if Ye3 p = true ∨ H p = true then [] else [Ygh p d]) else if p.kind = 0 then nms H A p.items 0 (A p.items) d else [] := by cases p; simp only [nm]
def upC (x : YC) : YC := ⟨x.name, x.depth + 1, x.form, x.each⟩
def rp (V : List YC) (R : List (List YC)) : List YC := (List.range V.length).map fun i => ⟨(V.getD i default).name, (V.getD i default).depth, (V.getD i default).form, (V.getD i default).each ++ R.map fun c => c.getD i default⟩
theorem Yh3 (V : List YC) (R : List (List YC)) : (rp V R).length = V.length := by simp [rp]
def mtr (g : YS -> Option (List YC)) : List YS -> Option (List (List YC))
 | [] => some []
 | f :: r => match g f with
  | none => none
  | some c => match mtr g r with
   | none => none
   | some R => some (c :: R)
def Yhh (a : Int) (n m : Nat) : Int := if 0 <= a then (m : Int) - ((n : Int) - 2) else 0
def Ylr (a : Int) (l : List YS) (f : YS) : Bool := decide (f.kind = 0) && decide (0 <= Yhh a l.length f.items.length) && (decide (0 <= a) || decide (f.items.length = l.length))
mutual
/-- a match: what is captured -/
def mt (M : YS -> YS -> Bool) (H : YS -> Bool) (A : List YS -> Int) : YS -> YS -> Option (List YC)
 | ⟨k, n, t, s, l⟩, f => if k = 1 then (if Ye3 ⟨k, n, t, s, l⟩ = true then some [] else if H ⟨k, n, t, s, l⟩ = true then (if f.kind = 1 /\ M ⟨k, n, t, s, l⟩ f = true then some [] else none) else some [Yje ⟨k, n, t, s, l⟩ f])
  else if k = 0 then (if Ylr (A l) l f = true then mts M H A l 0 (A l) (Yhh (A l) l.length f.items.length).toNat f.items else none)
  else if f.kind = k /\ f.number = n /\ f.text = t then some [] else none
def mts (M : YS -> YS -> Bool) (H : YS -> Bool) (A : List YS -> Int) : List YS -> Int -> Int -> Nat -> List YS -> Option (List YC)
 | [], _, _, _, _ => some []
 | x :: r, i, a, m, fs => if i = a then mts M H A r (i + 1) a m fs
  else if i + 1 = a then (match mtr (mt M H A x) (fs.take m) with
   | none => none
   | some R => match mts M H A r (i + 1) a m (fs.drop m) with
    | none => none
    | some c => some (rp (nm H A x 1) R ++ c))
  else match mt M H A x (fs.getD 0 default) with
   | none => none
   | some c => match mts M H A r (i + 1) a m (fs.drop 1) with
    | none => none
    | some d => some (c ++ d)
end
theorem Yg8 (M : YS -> YS -> Bool) (H : YS -> Bool) (A : List YS -> Int) (p f : YS) : mt M H A p f = if p.kind = 1 then (if Ye3 p = true then some [] else if H p = true then (if f.kind = 1 /\ M p f = true then some [] else none) else some [Yje p f])
  else if p.kind = 0 then (if Ylr (A p.items) p.items f = true then mts M H A p.items 0 (A p.items) (Yhh (A p.items) p.items.length f.items.length).toNat f.items else none)
  else if f.kind = p.kind /\ f.number = p.number /\ f.text = p.text then some [] else none := by cases p; simp only [mt]
theorem Y13w (H : YS -> Bool) (A : List YS -> Int) : ∀ (l : List YS), (∀ x ∈ l, ∀ d, nm H A x (d + 1) = (nm H A x d).map upC) -> ∀ i a d, nms H A l i a (d + 1) = (nms H A l i a d).map upC
 | [], _, i, a, d => by simp [nms]
 | x :: r, h, i, a, d => by
  simp only [nms, List.map_append, Y13w H A r (fun y hy => h y (List.mem_cons_of_mem _ hy))]
  congr 1
  split
  ·rfl
  ·split
   ·exact h x List.mem_cons_self (d + 1)
   ·exact h x List.mem_cons_self d
theorem Y11f (H : YS -> Bool) (A : List YS -> Int) : ∀ (p : YS) (d : Int), nm H A p (d + 1) = (nm H A p d).map upC := by
 intro p
 refine YS.ind (P := fun p => ∀ d, nm H A p (d + 1) = (nm H A p d).map upC) (fun p ih d => ?_) p
 rw [Ygm, Ygm]
 split
 ·split
  ·rfl
  ·rfl
 ·split
  ·exact Y13w H A p.items ih 0 _ d
  ·rfl
theorem Y15q {M : YS -> YS -> Bool} {H : YS -> Bool} {A : List YS -> Int} : ∀ (l : List YS), (∀ x ∈ l, ∀ f c, mt M H A x f = some c -> c.length = (nm H A x 0).length) -> ∀ i a m fs c, mts M H A l i a m fs = some c -> c.length = (nms H A l i a 0).length
 | [], _, i, a, m, fs, c, e => by simp only [mts, Option.some.injEq] at e; subst e; simp [nms]
 | x :: r, h, i, a, m, fs, c, e => by
  have ih := Y15q r (fun y hy => h y (List.mem_cons_of_mem _ hy)) (i + 1) a m
  simp only [mts] at e
  simp only [nms]
  split at e
  ·rename_i hi; rw [if_pos hi]; simpa using ih _ _ e
  ·rename_i hi
   rw [if_neg hi]
   split at e
   ·rename_i hi2
    rw [if_pos hi2]
    split at e
    ·cases e
    ·split at e
     ·cases e
     ·rename_i c' hc
      simp only [Option.some.injEq] at e; subst e
      rw [List.length_append, List.length_append, Yh3, ih _ _ hc]; rfl
   ·rename_i hi2
    rw [if_neg hi2]
    split at e
    ·cases e
    ·rename_i c1 h1
     split at e
     ·cases e
     ·rename_i c' hc
      simp only [Option.some.injEq] at e; subst e
      rw [List.length_append, List.length_append, h x List.mem_cons_self _ _ h1, ih _ _ hc]
theorem Yv4 {M : YS -> YS -> Bool} {H : YS -> Bool} {A : List YS -> Int} : ∀ (p f : YS) (c : List YC), mt M H A p f = some c -> c.length = (nm H A p 0).length := by
 intro p
 refine YS.ind (P := fun p => ∀ f c, mt M H A p f = some c -> c.length = (nm H A p 0).length) (fun p ih f c e => ?_) p
 rw [Yg8] at e
 rw [Ygm]
 split at e
 ·rename_i hk
  rw [if_pos hk]
  split at e
  ·rename_i hu; simp only [Option.some.injEq] at e; subst e; rw [if_pos (.inl hu)]
  ·rename_i hu
   split at e
   ·rename_i hh
    split at e
    ·simp only [Option.some.injEq] at e; subst e; rw [if_pos (.inr hh)]
    ·cases e
   ·rename_i hh
    simp only [Option.some.injEq] at e; subst e
    rw [if_neg (by simp [hu, hh])]; rfl
 ·rename_i hk
  rw [if_neg hk]
  split at e
  ·rename_i h0
   rw [if_pos h0]
   split at e
   ·exact Y15q p.items ih _ _ _ _ _ e
   ·cases e
  ·rename_i h0
   rw [if_neg h0]
   split at e
   ·simp only [Option.some.injEq] at e; subst e; rfl
   ·cases e
theorem Y144 (H : YS -> Bool) (A : List YS -> Int) (p : YS) : (nm H A p 1).length = (nm H A p 0).length := by
 have := Y11f H A p 0
 rw [show (0 : Int) + 1 = 1 from rfl] at this
 rw [this, List.length_map]
def aS (l : List YS) : Int := if okS l = true then atS l else -1
theorem Y193 {Ls : List YS} : ∀ (l : List YS), (∀ x ∈ l, ∀ d o r, vrS Ls x d o = some r -> r = o ++ nm (Ydo Ls) aS x d) -> ∀ i a d o r, wlk (vrS Ls) l i a d o = some r -> r = o ++ nms (Ydo Ls) aS l i a d
 | [], _, i, a, d, o, r, e => by simp only [wlk, Option.some.injEq] at e; subst e; simp [nms]
 | x :: l, h, i, a, d, o, r, e => by
  have ih := Y193 l fun y hy => h y (List.mem_cons_of_mem _ hy)
  simp only [wlk] at e
  simp only [nms]
  split at e
  ·rename_i hi; rw [if_pos hi, ih _ _ _ _ _ e]; rfl
  ·rename_i hi
   rw [if_neg hi]
   split at e
   ·cases e
   ·rename_i o1 h1
    rw [ih _ _ _ _ _ e, h x List.mem_cons_self _ _ _ h1, List.append_assoc]
theorem Yv8 {Ls : List YS} : ∀ (p : YS), okY p = true -> ∀ d o r, vrS Ls p d o = some r -> r = o ++ nm (Ydo Ls) aS p d := by
 refine YS.ind fun p ih h d o r e => ?_
 rw [Yhf] at e
 rw [Ygm]
 split at e
 ·rename_i hk
  rw [if_pos hk]
  split at e
  ·rename_i hu; simp only [Option.some.injEq] at e; subst e; rw [if_pos hu]; simp
  ·rename_i hu
   rw [if_neg hu]
   split at e
   ·cases e
   ·simp only [Option.some.injEq] at e; exact e.symm
 ·rename_i hk
  rw [if_neg hk]
  split at e
  ·rename_i hs
   by_cases h0 : p.kind = 0
   ·rw [if_pos h0]
    have ha : aS p.items = atS p.items := if_pos hs
    rw [ha]
    exact Y193 p.items (fun x hx => ih x hx (Yhu h x hx)) _ _ _ _ _ e
   ·rw [if_neg h0]
    rw [Yz6 h hk h0] at e
    simp only [wlk, Option.some.injEq] at e; subst e; simp
  ·cases e
theorem Yru (L : List YC) (q : YS) : 0 <= fnd L q ↔ Yd5 q = false /\ L.any (Yg0 q) = true := by
 have h1 : Yfz L q < L.length ↔ L.any (Yg0 q) = true := by
  unfold Yfz
  rw [List.findIdx_lt_length, List.any_eq_true]
 unfold fnd
 constructor
 ·intro h
  split at h
  ·rename_i hc; exact ⟨hc.1, h1.1 hc.2⟩
  ·omega
 ·rintro ⟨h2, h3⟩
  rw [if_pos ⟨h2, h1.2 h3⟩]; omega
theorem Y12r {Ls : List YS} : ∀ (l : List YS), (∀ x ∈ l, ∀ d o r, vrS Ls x d o = some r -> ∀ d' o', d' <= d -> (∀ q, 0 <= fnd o' q -> 0 <= fnd o q) -> ∃ r', vrS Ls x d' o' = some r' /\ ∀ q, 0 <= fnd r' q -> 0 <= fnd r q) ->
  ∀ i a d o r, wlk (vrS Ls) l i a d o = some r -> ∀ d' o', d' <= d -> (∀ q, 0 <= fnd o' q -> 0 <= fnd o q) -> ∃ r', wlk (vrS Ls) l i a d' o' = some r' /\ ∀ q, 0 <= fnd r' q -> 0 <= fnd r q
 | [], _, i, a, d, o, r, e, d', o', hd, ho => by simp only [wlk, Option.some.injEq] at e ⊢; subst e; exact ⟨o', rfl, ho⟩
 | x :: l, h, i, a, d, o, r, e, d', o', hd, ho => by
  have ih := Y12r l fun y hy => h y (List.mem_cons_of_mem _ hy)
  simp only [wlk] at e ⊢
  split at e
  ·rename_i hi; rw [if_pos hi]; exact ih _ _ _ _ _ e _ _ hd ho
  ·rename_i hi
   rw [if_neg hi]
   split at e
   ·cases e
   ·rename_i o1 h1
    obtain ⟨r1, e1, e2⟩ := h x List.mem_cons_self _ _ _ h1 (if i + 1 = a then d' + 1 else d') o' (by split <;> omega) ho
    rw [e1]
    exact ih _ _ _ _ _ e _ _ hd e2
theorem Y126 {Ls : List YS} : ∀ (p : YS) (d : Int) (o r : List YC), vrS Ls p d o = some r -> ∀ d' o', d' <= d -> (∀ q, 0 <= fnd o' q -> 0 <= fnd o q) -> ∃ r', vrS Ls p d' o' = some r' /\ ∀ q, 0 <= fnd r' q -> 0 <= fnd r q := by
 refine YS.ind fun p ih d o r e d' o' hd ho => ?_
 rw [Yhf] at e ⊢
 split at e
 ·rename_i hk
  rw [if_pos hk]
  split at e
  ·rename_i hu; simp only [Option.some.injEq] at e; subst e; rw [if_pos hu]; exact ⟨o', rfl, ho⟩
  ·rename_i hu
   rw [if_neg hu]
   split at e
   ·cases e
   ·rename_i hb
    simp only [Option.some.injEq] at e; subst e
    rw [if_neg (fun hc => hb (hc.imp id (Or.imp (ho p) (fun h => by omega))))]
    refine ⟨_, rfl, fun q hq => ?_⟩
    rw [Yru] at hq ⊢
    refine ⟨hq.1, ?_⟩
    rw [List.any_append, Bool.or_eq_true] at hq ⊢
    rcases hq.2 with h1 | h1
    ·exact .inl ((Yru o q).1 (ho q ((Yru o' q).2 ⟨hq.1, h1⟩))).2
    ·exact .inr h1
 ·rename_i hk
  rw [if_neg hk]
  split at e
  ·rename_i hs
   rw [if_pos hs]
   exact Y12r p.items ih _ _ _ _ _ e _ _ hd ho
  ·cases e
theorem Yty {f : YS -> Int -> List YC -> Option (List YC)} : ∀ (l : List YS) (i a d : Int) (o r : List YC), wlk f l i a d o = some r -> ∀ k : Nat, k < l.length -> i + k ≠ a ->
  ∃ o' r', f (l.getD k default) (if i + k + 1 = a then d + 1 else d) o' = some r'
 | [], i, a, d, o, r, e, k, hk, _ => by simp at hk
 | x :: l, i, a, d, o, r, e, k, hk, hne => by
  simp only [wlk] at e
  cases k with
  | zero =>
   split at e
   ·rename_i hi; exact absurd hi (by simpa using hne)
   ·split at e
    ·cases e
    ·rename_i o1 h1
     exact ⟨o, o1, by simpa using h1⟩
  | succ k =>
   have hk' : k < l.length := by simpa using hk
   have e1 : i + ((k + 1 : Nat) : Int) = i + 1 + (k : Int) := by omega
   have : ∃ o2 r2, wlk f l (i + 1) a d o2 = some r2 := by
    split at e
    ·exact ⟨_, _, e⟩
    ·split at e
     ·cases e
     ·exact ⟨_, _, e⟩
   obtain ⟨o2, r2, e2⟩ := this
   rw [e1] at hne ⊢
   simpa using Yty l (i + 1) a d o2 r2 e2 k hk' hne
def good (Ls : List YS) (p : YS) : Prop := okY p = true /\ ∃ d o r, 0 <= d /\ vrS Ls p d o = some r
theorem Ykx {Ls : List YS} {p : YS} (h : good Ls p) (h0 : p.kind = 0) : okS p.items = true := by
 obtain ⟨_, d, o, r, _, e⟩ := h
 rw [Yhf, if_neg (by omega)] at e
 cases hs : okS p.items with
 | true => rfl
 | false => rw [hs, if_neg (by simp)] at e; cases e
theorem Yhp {Ls : List YS} {p : YS} (h : good Ls p) (h0 : p.kind = 0) {k : Nat} (hk : k < p.items.length) (hne : (k : Int) ≠ aS p.items) : good Ls (p.items.getD k default) := by
 have hs := Ykx h h0
 obtain ⟨hy, d, o, r, hd, e⟩ := h
 refine ⟨Yhu hy _ (Yd6 hk), ?_⟩
 rw [Yhf, if_neg (by omega), if_pos hs] at e
 have ha : aS p.items = atS p.items := if_pos hs
 rw [ha] at hne
 obtain ⟨o', r', e'⟩ := Yty p.items 0 _ d o r e k hk (by omega)
 exact ⟨_, o', r', by split <;> omega, e'⟩
theorem Yph {Ls : List YS} {p : YS} (h : good Ls p) (h0 : p.kind = 0) {k : Nat} (hk : k < p.items.length) (ha : (k : Int) + 1 = aS p.items) :
  vrS Ls (p.items.getD k default) 0 [] = some (nm (Ydo Ls) aS (p.items.getD k default) 0) /\ vrS Ls (p.items.getD k default) 1 [] = some (nm (Ydo Ls) aS (p.items.getD k default) 1) := by
 have hs := Ykx h h0
 obtain ⟨hy, d, o, r, hd, e⟩ := h
 have hy' := Yhu hy _ (Yd6 hk)
 rw [Yhf, if_neg (by omega), if_pos hs] at e
 have ha' : aS p.items = atS p.items := if_pos hs
 rw [ha'] at ha
 obtain ⟨o', r', e'⟩ := Yty p.items 0 _ d o r e k hk (by omega)
 rw [if_pos (by omega)] at e'
 have hn : ∀ q, 0 <= fnd [] q -> 0 <= fnd o' q := fun q hq => by rw [Yru] at hq; simp at hq
 obtain ⟨r0, e0, _⟩ := Y126 _ _ _ _ e' 0 [] (by omega) hn
 obtain ⟨r1, e1, _⟩ := Y126 _ _ _ _ e' 1 [] (by omega) hn
 refine ⟨?_, ?_⟩
 ·rw [e0]; exact congrArg some (by simpa using Yv8 _ hy' _ _ _ e0)
 ·rw [e1]; exact congrArg some (by simpa using Yv8 _ hy' _ _ _ e1)
theorem Y19b {g g' : YS -> Option (List YC)} (h : ∀ f, g f = g' f) (L : List YS) : mtr g L = mtr g' L := by rw [funext h]
theorem Y101 {M : YS -> YS -> Bool} {H H' : YS -> Bool} {A A' : List YS -> Int} {a : Int} : ∀ (l : List YS) (i : Int), (∀ k : Nat, k < l.length -> i + k ≠ a -> (∀ f, mt M H A (l.getD k default) f = mt M H' A' (l.getD k default) f) /\
      nm H A (l.getD k default) 1 = nm H' A' (l.getD k default) 1) -> ∀ m fs, mts M H A l i a m fs = mts M H' A' l i a m fs
  | [], i, _, m, fs => by simp only [mts]
  | x :: r, i, h, m, fs => by
    have ih := Y101 (a := a) r (i + 1) (fun k hk hne => by
      have := h (k + 1) (by simpa using hk) (by omega)
      simpa using this)
    simp only [mts, ih]
    by_cases hi : i = a
    · rw [if_pos hi, if_pos hi]
    · obtain ⟨h1, h2⟩ := h 0 (by simp) (by simpa using hi)
      simp only [List.getD_cons_zero] at h1 h2
      rw [if_neg hi, if_neg hi, Y19b h1, h2, h1]
theorem Y11x {H H' : YS -> Bool} {A A' : List YS -> Int} {a : Int} : ∀ (l : List YS) (i : Int), (∀ k : Nat, k < l.length -> i + k ≠ a -> ∀ d, nm H A (l.getD k default) d = nm H' A' (l.getD k default) d) -> ∀ d, nms H A l i a d = nms H' A' l i a d
 | [], i, _, d => by simp only [nms]
 | x :: r, i, h, d => by
  have ih := Y11x (a := a) r (i + 1) (fun k hk hne => by
   have := h (k + 1) (by simpa using hk) (by omega)
   simpa using this)
  simp only [nms, ih]
  by_cases hi : i = a
  ·rw [if_pos hi, if_pos hi]
  ·have h1 := h 0 (by simp) (by simpa using hi)
   simp only [List.getD_cons_zero] at h1
   rw [if_neg hi, if_neg hi, h1]
theorem Y151 {M : YS -> YS -> Bool} {Ls : List YS} (hL : ∀ x ∈ Ls, Yfo x = true) : ∀ p : YS, good Ls p -> (∀ f, mt M (Ydo Ls) aS p f = mt M (Yfr Ls) atI p f) /\ ∀ d, nm (Ydo Ls) aS p d = nm (Yfr Ls) atI p d := by
 refine YS.ind fun p ih hg => ?_
 by_cases hk : p.kind = 1
 ·have hh := Yyb hL hk
  refine ⟨fun f => ?_, fun d => ?_⟩
  ·rw [Yg8, Yg8, if_pos hk, if_pos hk, hh]
  ·rw [Ygm, Ygm, if_pos hk, if_pos hk, hh]
 ·by_cases h0 : p.kind = 0
  ·have hs := Ykx hg h0
   have e1 : aS p.items = atI p.items := by rw [(Y111 hs).1]; exact if_pos hs
   have hit : ∀ k : Nat, k < p.items.length -> (0 : Int) + k ≠ atI p.items -> (∀ f, mt M (Ydo Ls) aS (p.items.getD k default) f = mt M (Yfr Ls) atI (p.items.getD k default) f) /\ ∀ d, nm (Ydo Ls) aS (p.items.getD k default) d = nm (Yfr Ls) atI (p.items.getD k default) d :=
    fun k hk' hne => ih _ (Yd6 hk') (Yhp hg h0 hk' (by rw [e1]; omega))
   refine ⟨fun f => ?_, fun d => ?_⟩
   ·rw [Yg8, Yg8, if_neg hk, if_neg hk, if_pos h0, if_pos h0, e1, Y101 p.items 0 fun k hk' hne => ⟨(hit k hk' hne).1, (hit k hk' hne).2 1⟩]
   ·rw [Ygm, Ygm, if_neg hk, if_neg hk, if_pos h0, if_pos h0, e1, Y11x p.items 0 fun k hk' hne => (hit k hk' hne).2]
  ·refine ⟨fun f => ?_, fun d => ?_⟩
   ·rw [Yg8, Yg8, if_neg hk, if_neg hk, if_neg h0, if_neg h0]
   ·rw [Ygm, Ygm, if_neg hk, if_neg hk, if_neg h0, if_neg h0]
theorem Y11e {H : YS -> Bool} {A : List YS -> Int} : ∀ (l : List YS), (∀ x ∈ l, ∀ d, (nm H A x d).length <= sizeY x) -> ∀ i a d, (nms H A l i a d).length <= sumBy sizeY l
 | [], _, i, a, d => by simp [nms]
 | x :: r, h, i, a, d => by
  have ih := Y11e r (fun y hy => h y (List.mem_cons_of_mem _ hy)) (i + 1) a d
  simp only [nms, List.length_append, sumBy]
  split
  ·simp only [List.length_nil]; omega
  ·have := h x List.mem_cons_self (if i + 1 = a then d + 1 else d); omega
theorem Yo9 (H : YS -> Bool) (A : List YS -> Int) : ∀ (p : YS) (d : Int), (nm H A p d).length <= sizeY p := by
 intro p
 refine YS.ind (P := fun p => ∀ d, (nm H A p d).length <= sizeY p) (fun p ih d => ?_) p
 have hz := Ye6 p
 rw [Ygm]
 split
 ·split
  ·simp
  ·simp only [List.length_singleton]; omega
 ·split
  ·have := Y11e p.items ih 0 (A p.items) d; omega
  ·simp
def rws (g : YS -> Option (List YC)) (fs : List YS) (k : Nat) : Nat -> List (List YC) × Bool
 | 0 => ([], true)
 | j + 1 => if (rws g fs k j).2 = true then (match g (fs.getD (k + j) default) with | some c => ((rws g fs k j).1 ++ [c], true) | none => ((rws g fs k j).1, false)) else rws g fs k j
theorem Ywt {g : YS -> Option (List YC)} {fs : List YS} {k : Nat} : ∀ j, (rws g fs k j).2 = true -> (rws g fs k j).1.length = j
 | 0, _ => rfl
 | j + 1, h => by
  simp only [rws] at h ⊢
  split at h
  ·rename_i hj
   rw [if_pos hj]
   split at h
   ·rename_i c hc; rw [List.length_append, Ywt j hj, List.length_singleton]
   ·cases h
  ·rename_i hj; exact absurd h hj
theorem Ypt {g : YS -> Option (List YC)} {fs : List YS} {k j : Nat} (h : (rws g fs k j).2 = false) : ∀ n, rws g fs k (j + n) = rws g fs k j
 | 0 => rfl
 | n + 1 => by
  have ih := Ypt h n
  rw [<- Nat.add_assoc]
  simp only [rws, ih, h]
  simp
theorem Yu5 {g : YS -> Option (List YC)} {fs : List YS} {k j : Nat} {c : List YC} (h : (rws g fs k j).2 = true) (hc : g (fs.getD (k + j) default) = some c) : rws g fs k (j + 1) = ((rws g fs k j).1 ++ [c], true) := by
 simp only [rws]; rw [if_pos h, hc]
theorem Yu9 {g : YS -> Option (List YC)} {fs : List YS} {k j : Nat} (h : (rws g fs k j).2 = true) (hc : g (fs.getD (k + j) default) = none) : rws g fs k (j + 1) = ((rws g fs k j).1, false) := by
 simp only [rws]; rw [if_pos h, hc]
theorem Y11i (g : YS -> Option (List YC)) : ∀ (L : List YS) (x : YS), mtr g (L ++ [x]) = match mtr g L with | none => none | some R => match g x with | none => none | some c => some (R ++ [c])
 | [], x => by cases h : g x <;> simp [mtr, h]
 | y :: L, x => by
  simp only [List.cons_append, mtr, Y11i g L x]
  cases g y with
  | none => rfl
  | some c =>
   cases mtr g L with
   | none => rfl
   | some R => cases g x <;> rfl
theorem Yxa {g : YS -> Option (List YC)} {fs : List YS} {k : Nat} : ∀ j, k + j <= fs.length -> mtr g ((fs.drop k).take j) = if (rws g fs k j).2 = true then some (rws g fs k j).1 else none
 | 0, _ => by simp [mtr, rws]
 | j + 1, h => by
  have hj : j < (fs.drop k).length := by rw [List.length_drop]; omega
  have e : (fs.drop k).getD j default = fs.getD (k + j) default := by simp [List.getD_eq_getElem?_getD, List.getElem?_drop]
  rw [Ydn hj, Y11i, Yxa j (by omega), e]
  by_cases hr : (rws g fs k j).2 = true
  ·rw [if_pos hr]
   cases hg : g (fs.getD (k + j) default) with
   | none => rw [Yu9 hr hg]; rfl
   | some c => rw [Yu5 hr hg]; rfl
  ·have hr' : (rws g fs k j).2 = false := by simpa using hr
   rw [if_neg hr, Ypt hr' 1, if_neg hr]
def flM (x : YS) (L : List YC) : List YC := if x.kind = 0 then [] else L
def sA (g : YS -> YS -> Option (List YC)) (N : YS -> List YC) (l fs : List YS) (a : Int) (m : Nat) (o : List YC) : Nat -> List YC × Nat × Bool
 | 0 => (o, 0, true)
 | i + 1 => if (sA g N l fs a m o i).2.2 = true then (if (i : Int) = a then sA g N l fs a m o i
   else if (i : Int) + 1 = a then ((sA g N l fs a m o i).1 ++ rp (N (l.getD i default)) (rws (g (l.getD i default)) fs (sA g N l fs a m o i).2.1 m).1,
    (sA g N l fs a m o i).2.1 + (if (rws (g (l.getD i default)) fs (sA g N l fs a m o i).2.1 m).2 = true then m else (rws (g (l.getD i default)) fs (sA g N l fs a m o i).2.1 m).1.length + 1),
    (rws (g (l.getD i default)) fs (sA g N l fs a m o i).2.1 m).2)
   else match g (l.getD i default) (fs.getD (sA g N l fs a m o i).2.1 default) with
    | some c => ((sA g N l fs a m o i).1 ++ c, (sA g N l fs a m o i).2.1 + 1, true)
    | none => (flM (l.getD i default) (sA g N l fs a m o i).1, (sA g N l fs a m o i).2.1 + 1, false))
  else sA g N l fs a m o i
section
variable {g : YS -> YS -> Option (List YC)} {N : YS -> List YC} {l fs : List YS} {a : Int} {m : Nat} {o : List YC}
def oA (g : YS -> YS -> Option (List YC)) (N : YS -> List YC) (l fs : List YS) (a : Int) (m : Nat) (o : List YC) (i : Nat) : List YC := (sA g N l fs a m o i).1
def kA (g : YS -> YS -> Option (List YC)) (N : YS -> List YC) (l fs : List YS) (a : Int) (m : Nat) (o : List YC) (i : Nat) : Nat := (sA g N l fs a m o i).2.1
def bA (g : YS -> YS -> Option (List YC)) (N : YS -> List YC) (l fs : List YS) (a : Int) (m : Nat) (o : List YC) (i : Nat) : Bool := (sA g N l fs a m o i).2.2
theorem Y1gx : oA g N l fs a m o 0 = o /\ kA g N l fs a m o 0 = 0 /\ bA g N l fs a m o 0 = true := ⟨rfl, rfl, rfl⟩
theorem Y14j {i : Nat} (h : bA g N l fs a m o i = true) (e : (i : Int) = a) : oA g N l fs a m o (i + 1) = oA g N l fs a m o i /\ kA g N l fs a m o (i + 1) = kA g N l fs a m o i /\ bA g N l fs a m o (i + 1) = true := by
 have e1 : sA g N l fs a m o (i + 1) = sA g N l fs a m o i := by
  have h' : (sA g N l fs a m o i).2.2 = true := h
  simp only [sA]; rw [if_pos h', if_pos e]
 unfold oA kA bA at *; rw [e1]; exact ⟨rfl, rfl, h⟩
theorem Y12e {i : Nat} (h : bA g N l fs a m o i = true) (e : ¬ (i : Int) = a) (e2 : ¬ (i : Int) + 1 = a) {c : Option (List YC)} (hc : g (l.getD i default) (fs.getD (kA g N l fs a m o i) default) = c) :
  oA g N l fs a m o (i + 1) = c.elim (flM (l.getD i default) (oA g N l fs a m o i)) (fun c => oA g N l fs a m o i ++ c) /\ kA g N l fs a m o (i + 1) = kA g N l fs a m o i + 1 /\ bA g N l fs a m o (i + 1) = c.isSome := by
 have h' : (sA g N l fs a m o i).2.2 = true := h
 have hc' : g (l.getD i default) (fs.getD (sA g N l fs a m o i).2.1 default) = c := hc
 cases c with
 | some c =>
  have e1 : sA g N l fs a m o (i + 1) = ((sA g N l fs a m o i).1 ++ c, (sA g N l fs a m o i).2.1 + 1, true) := by
   simp only [sA]; rw [if_pos h', if_neg e, if_neg e2, hc']
  unfold oA kA bA; rw [e1]; exact ⟨rfl, rfl, rfl⟩
 | none =>
  have e1 : sA g N l fs a m o (i + 1) = (flM (l.getD i default) (sA g N l fs a m o i).1, (sA g N l fs a m o i).2.1 + 1, false) := by
   simp only [sA]; rw [if_pos h', if_neg e, if_neg e2, hc']
  unfold oA kA bA; rw [e1]; exact ⟨rfl, rfl, rfl⟩
theorem Y19w {i : Nat} (h : bA g N l fs a m o i = true) (e2 : (i : Int) + 1 = a) {k : Nat} (hk : kA g N l fs a m o i = k) {R : List (List YC) × Bool} (hR : rws (g (l.getD i default)) fs k m = R) :
    oA g N l fs a m o (i + 1) = oA g N l fs a m o i ++ rp (N (l.getD i default)) R.1 /\ kA g N l fs a m o (i + 1) = k + (if R.2 = true then m else R.1.length + 1) /\ bA g N l fs a m o (i + 1) = R.2 := by
  subst hk; subst hR
  have e1 : sA g N l fs a m o (i + 1) = ((sA g N l fs a m o i).1 ++ rp (N (l.getD i default)) (rws (g (l.getD i default)) fs (sA g N l fs a m o i).2.1 m).1,
        (sA g N l fs a m o i).2.1 + (if (rws (g (l.getD i default)) fs (sA g N l fs a m o i).2.1 m).2 = true then m else (rws (g (l.getD i default)) fs (sA g N l fs a m o i).2.1 m).1.length + 1),
        (rws (g (l.getD i default)) fs (sA g N l fs a m o i).2.1 m).2) := by
    have h' : (sA g N l fs a m o i).2.2 = true := h
    simp only [sA]; rw [if_pos h', if_neg (by omega), if_pos e2]
  unfold oA kA bA; rw [e1]; exact ⟨rfl, rfl, rfl⟩
theorem Y15r {i : Nat} (h : bA g N l fs a m o i = false) : ∀ n, sA g N l fs a m o (i + n) = sA g N l fs a m o i
 | 0 => rfl
 | n + 1 => by
  have ih := Y15r h n
  rw [<- Nat.add_assoc]
  have h' : (sA g N l fs a m o i).2.2 = false := h
  simp only [sA, ih, h']
  simp
theorem Y190 {i n : Nat} (h : bA g N l fs a m o i = false) (hn : i <= n) : oA g N l fs a m o n = oA g N l fs a m o i /\ kA g N l fs a m o n = kA g N l fs a m o i /\ bA g N l fs a m o n = false := by
 have := Y15r h (n - i)
 rw [show i + (n - i) = n by omega] at this
 unfold oA kA bA at *; rw [this]; exact ⟨rfl, rfl, h⟩
end
def kF (a : Int) (m i : Nat) : Int := if a < 0 ∨ (i : Int) < a then i else if (i : Int) = a then a - 1 + m else (i : Int) - 2 + m
section
variable {M : YS -> YS -> Bool} {H : YS -> Bool} {A : List YS -> Int} {l fs : List YS} {a : Int} {m : Nat} {o : List YC}
theorem Y14z (ha : 0 <= a -> 1 <= a /\ a < l.length /\ (fs.length : Int) = l.length - 2 + m) (hb : a < 0 -> fs.length = l.length) : ∀ i, i <= l.length -> (bA (mt M H A) (fun x => nm H A x 1) l fs a m o i = true ->
      (kA (mt M H A) (fun x => nm H A x 1) l fs a m o i : Int) = kF a m i /\ ∃ c, oA (mt M H A) (fun x => nm H A x 1) l fs a m o i = o ++ c /\ c.length <= sumBy sizeY (l.take i) /\
        mts M H A l 0 a m fs = (mts M H A (l.drop i) i a m (fs.drop (kA (mt M H A) (fun x => nm H A x 1) l fs a m o i))).map (c ++ ·)) /\
    (bA (mt M H A) (fun x => nm H A x 1) l fs a m o i = false -> mts M H A l 0 a m fs = none)
  | 0, _ => ⟨fun _ => ⟨by simp [kF, kA, sA]; omega, [], by simp [oA, sA], by simp, by simp [kA, sA]⟩, fun h => by cases h⟩
  | i + 1, hi => by
    obtain ⟨ih1, ih2⟩ := Y14z ha hb i (by omega)
    have hil : i < l.length := by omega
    have hdrop := Yfj hil
    have hsum : sumBy sizeY (l.take (i + 1)) = sumBy sizeY (l.take i) + sizeY (l.getD i default) := by rw [Ydn hil, Yes]; rfl
    cases hbi : bA (mt M H A) (fun x => nm H A x 1) l fs a m o i with
    | false =>
      have e := Y190 hbi (Nat.le_succ i)
      refine ⟨fun h => ?_, fun _ => ih2 hbi⟩
      rw [e.2.2] at h; cases h
    | true =>
      obtain ⟨hk, c, hc1, hc2, hc3⟩ := ih1 hbi
      by_cases e : (i : Int) = a
      · obtain ⟨s1, s2, s3⟩ := Y14j hbi e
        refine ⟨fun _ => ⟨?_, c, ?_, ?_, ?_⟩, fun h => by rw [s3] at h; cases h⟩
        · rw [s2, hk]; unfold kF; rw [if_neg (by omega), if_pos e, if_neg (by omega), if_neg (by omega)]; omega
        · rw [s1, hc1]
        · omega
        · rw [hc3, s2, hdrop]
          simp only [mts, if_pos e]
          congr 1
      · by_cases e2 : (i : Int) + 1 = a
        · obtain ⟨s1, s2, s3⟩ := Y19w hbi e2 rfl rfl
          have hkl : kA (mt M H A) (fun x => nm H A x 1) l fs a m o i + m <= fs.length := by
            have := ha (by omega)
            unfold kF at hk; rw [if_pos (by omega)] at hk; omega
          have hr := Yxa (g := mt M H A (l.getD i default)) m hkl
          have hstep : mts M H A (l.drop i) i a m (fs.drop (kA (mt M H A) (fun x => nm H A x 1) l fs a m o i)) = match mtr (mt M H A (l.getD i default)) ((fs.drop (kA (mt M H A) (fun x => nm H A x 1) l fs a m o i)).take m) with
              | none => none
              | some R => match mts M H A (l.drop (i + 1)) (i + 1) a m (fs.drop (kA (mt M H A) (fun x => nm H A x 1) l fs a m o i + m)) with
                | none => none
                | some c => some (rp (nm H A (l.getD i default) 1) R ++ c) := by
            rw [hdrop]
            simp only [mts, if_neg e, if_pos e2, List.drop_drop]
          refine ⟨fun h => ?_, fun h => ?_⟩
          · rw [s3] at h
            rw [if_pos h] at hr s2
            refine ⟨?_, c ++ rp (nm H A (l.getD i default) 1) _, by rw [s1, hc1, List.append_assoc], ?_, ?_⟩
            · rw [s2]; unfold kF at hk ⊢; rw [if_pos (by omega)] at hk; rw [if_neg (by omega), if_pos (by omega)]; omega
            · rw [List.length_append, Yh3, hsum]
              have := Yo9 H A (l.getD i default) 1
              omega
            · rw [hc3, hstep, hr, s2]
              simp only [Int.natCast_add, Int.natCast_one]
              cases mts M H A (l.drop (i + 1)) ((i : Int) + 1) a m (fs.drop (kA (mt M H A) (fun x => nm H A x 1) l fs a m o i + m)) <;> simp
          · rw [s3] at h
            rw [if_neg (by rw [h]; simp)] at hr
            rw [hc3, hstep, hr]; rfl
        · have hstep : mts M H A (l.drop i) i a m (fs.drop (kA (mt M H A) (fun x => nm H A x 1) l fs a m o i)) = match mt M H A (l.getD i default) (fs.getD (kA (mt M H A) (fun x => nm H A x 1) l fs a m o i) default) with
              | none => none
              | some c => match mts M H A (l.drop (i + 1)) (i + 1) a m (fs.drop (kA (mt M H A) (fun x => nm H A x 1) l fs a m o i + 1)) with
                | none => none
                | some d => some (c ++ d) := by
            rw [hdrop]
            have eg : (fs.drop (kA (mt M H A) (fun x => nm H A x 1) l fs a m o i)).getD 0 default = fs.getD (kA (mt M H A) (fun x => nm H A x 1) l fs a m o i) default := by simp [List.getD_eq_getElem?_getD, List.getElem?_drop]
            simp only [mts, if_neg e, if_neg e2, List.drop_drop, eg]
          cases hg : mt M H A (l.getD i default) (fs.getD (kA (mt M H A) (fun x => nm H A x 1) l fs a m o i) default) with
          | none =>
            obtain ⟨s1, s2, s3⟩ := Y12e hbi e e2 hg
            refine ⟨fun h => ?_, fun h => ?_⟩
            · rw [s3] at h; cases h
            · rw [hc3, hstep, hg]; rfl
          | some c' =>
            obtain ⟨s1, s2, s3⟩ := Y12e hbi e e2 hg
            refine ⟨fun _ => ⟨?_, c ++ c', by rw [s1]; simp only [Option.elim]; rw [hc1, List.append_assoc], ?_, ?_⟩, fun h => by rw [s3] at h; cases h⟩
            · rw [s2]; unfold kF at hk ⊢
              by_cases ea : a < 0 ∨ (i : Int) < a
              · rw [if_pos ea] at hk; rw [if_pos (by omega)]; omega
              · rw [if_neg ea, if_neg e] at hk; rw [if_neg (by omega), if_neg (by omega)]; omega
            · rw [List.length_append, hsum, Yv4 _ _ _ hg]
              have := Yo9 H A (l.getD i default) 0
              omega
            · rw [hc3, hstep, hg, s2]
              simp only [Int.natCast_add, Int.natCast_one]
              cases mts M H A (l.drop (i + 1)) ((i : Int) + 1) a m (fs.drop (kA (mt M H A) (fun x => nm H A x 1) l fs a m o i + 1)) <;> simp
end
end Go.Proofs.YtclpofblehlojaaGreat
end
section
namespace Go.Proofs.YtclpofblehlojaaGreat
open Go Ab
abbrev gS (B : List YB) (Ls : List YS) : YS -> YS -> Option (List YC) := mt (mng B) (Ydo Ls) aS
def nS (Ls : List YS) (x : YS) : List YC := nm (Ydo Ls) aS x 1
def eV (Ls : List YS) (x : YS) : List YC := (vrS Ls x 0 []).getD []
def smO (p : YS) (o : List YC) (r : Option (List YC)) : List YC := match r with | some c => o ++ c | none => flM p o
def mS (p f : YS) : Nat := (Yhh (aS p.items) p.items.length f.items.length).toNat
def oS (B : List YB) (Ls : List YS) (p f : YS) (o : List YC) (i : Nat) : List YC := oA (gS B Ls) (fun x => nm (Ydo Ls) aS x 1) p.items f.items (aS p.items) (mS p f) o i
def kS (B : List YB) (Ls : List YS) (p f : YS) (o : List YC) (i : Nat) : Nat := kA (gS B Ls) (fun x => nm (Ydo Ls) aS x 1) p.items f.items (aS p.items) (mS p f) o i
def bS (B : List YB) (Ls : List YS) (p f : YS) (o : List YC) (i : Nat) : Bool := bA (gS B Ls) (fun x => nm (Ydo Ls) aS x 1) p.items f.items (aS p.items) (mS p f) o i
def rS (B : List YB) (Ls : List YS) (p f : YS) (o : List YC) (i t : Nat) : List (List YC) := (rws (gS B Ls (p.items.getD i default)) f.items (kS B Ls p f o i) t).1
def qS (B : List YB) (Ls : List YS) (p f : YS) (o : List YC) (i t : Nat) : Bool := (rws (gS B Ls (p.items.getD i default)) f.items (kS B Ls p f o i) t).2
def fS (p f : YS) : Bool := Ylr (aS p.items) p.items f
def Ye9 (V : List YC) (i : Nat) : List YC := (V.take i).map upC ++ V.drop i
abbrev Ylm (x : YC) : List Cell := [cI x.name.kind, cI x.name.number, cS x.name.text, .any, .any, cI x.depth, cI x.form.kind, cI x.form.number, cS x.form.text, .any, .any, .any]
def Yeo (V : List YC) (R : List (List YC)) (c : List YC) (u : Nat) : List YC := (rp V (R ++ [c])).take u ++ (rp V R).drop u
theorem Y1ew (l : List YS) : aS l = -1 ∨ ∃ a : Nat, aS l = a /\ 1 <= a /\ a < l.length := by
 unfold aS
 split
 ·rename_i h
  rcases Yog l l.length (Nat.le_refl _) h with h1 | ⟨m, h1, h2, h3, _⟩
  ·exact .inl h1.1
  ·exact .inr ⟨m, h3, h1, h2⟩
 ·exact .inl rfl
theorem Ys9 (p f : YS) : fS p f = (decide (f.kind = 0) && decide (0 <= Yhh (aS p.items) p.items.length f.items.length) && (decide (0 <= aS p.items) || decide (f.items.length = p.items.length))) := rfl
theorem Y1eo {p f : YS} (h : fS p f = true) : f.kind = 0 /\ (aS p.items = -1 /\ f.items.length = p.items.length /\ mS p f = 0 ∨ ∃ a : Nat, aS p.items = a /\ 1 <= a /\ a < p.items.length /\ (f.items.length : Int) = p.items.length - 2 + mS p f) := by
 rw [Ys9] at h
 simp only [Bool.and_eq_true, Bool.or_eq_true, decide_eq_true_eq] at h
 obtain ⟨⟨h1, h2⟩, h3⟩ := h
 refine ⟨h1, ?_⟩
 rcases Y1ew p.items with ha | ⟨a, ha, ha1, ha2⟩
 ·refine .inl ⟨ha, by rcases h3 with h3 | h3 <;> omega, ?_⟩
  unfold mS Yhh; rw [ha, if_neg (by omega)]; rfl
 ·refine .inr ⟨a, ha, ha1, ha2, ?_⟩
  have e : Yhh (aS p.items) p.items.length f.items.length = (f.items.length : Int) - ((p.items.length : Int) - 2) := if_pos (by omega)
  rw [e] at h2
  unfold mS; rw [e]; omega
section
variable {B : List YB} {Ls : List YS} {p f : YS} {o : List YC}
theorem Y1h2 : oS B Ls p f o 0 = o /\ kS B Ls p f o 0 = 0 /\ bS B Ls p f o 0 = true := Y1gx
theorem Y1f6 {i : Nat} (h : bS B Ls p f o i = true) (e : (i : Int) = aS p.items) : oS B Ls p f o (i + 1) = oS B Ls p f o i /\ kS B Ls p f o (i + 1) = kS B Ls p f o i /\ bS B Ls p f o (i + 1) = true := Y14j h e
theorem Y1j1 {i : Nat} (h : bS B Ls p f o i = true) (e : ¬ (i : Int) = aS p.items) (e2 : ¬ (i : Int) + 1 = aS p.items) :
    oS B Ls p f o (i + 1) = smO (p.items.getD i default) (oS B Ls p f o i) (gS B Ls (p.items.getD i default) (f.items.getD (kS B Ls p f o i) default)) /\ kS B Ls p f o (i + 1) = kS B Ls p f o i + 1 /\ bS B Ls p f o (i + 1) = (gS B Ls (p.items.getD i default) (f.items.getD (kS B Ls p f o i) default)).isSome := by
  obtain ⟨h1, h2, h3⟩ := Y12e (N := fun x => nm (Ydo Ls) aS x 1) h e e2 rfl
  refine ⟨?_, h2, h3⟩
  have e3 : oS B Ls p f o (i + 1) = _ := h1
  rw [e3]
  unfold smO
  cases hg : gS B Ls (p.items.getD i default) (f.items.getD (kS B Ls p f o i) default) with
  | none => have hg' : gS B Ls (p.items.getD i default) (f.items.getD (kA (gS B Ls) (fun x => nm (Ydo Ls) aS x 1) p.items f.items (aS p.items) (mS p f) o i) default) = none := hg
            rw [hg']; rfl
  | some c => have hg' : gS B Ls (p.items.getD i default) (f.items.getD (kA (gS B Ls) (fun x => nm (Ydo Ls) aS x 1) p.items f.items (aS p.items) (mS p f) o i) default) = some c := hg
              rw [hg']; rfl
theorem Y1ik {i : Nat} (h : bS B Ls p f o i = true) (e2 : (i : Int) + 1 = aS p.items) :
  oS B Ls p f o (i + 1) = oS B Ls p f o i ++ rp (nS Ls (p.items.getD i default)) (rS B Ls p f o i (mS p f)) /\ kS B Ls p f o (i + 1) = kS B Ls p f o i + (if qS B Ls p f o i (mS p f) = true then mS p f else (rS B Ls p f o i (mS p f)).length + 1) /\ bS B Ls p f o (i + 1) = qS B Ls p f o i (mS p f) :=
 Y19w (N := fun x => nm (Ydo Ls) aS x 1) h e2 rfl rfl
theorem Y1g2 {i n : Nat} (h : bS B Ls p f o i = false) (hn : i <= n) : oS B Ls p f o n = oS B Ls p f o i /\ bS B Ls p f o n = false :=
 have t := Y190 (N := fun x => nm (Ydo Ls) aS x 1) h hn
 ⟨t.1, t.2.2⟩
theorem Y14p (hf : fS p f = true) (i : Nat) (hi : i <= p.items.length) : (bS B Ls p f o i = true -> (kS B Ls p f o i : Int) = kF (aS p.items) (mS p f) i /\ ∃ c, oS B Ls p f o i = o ++ c /\ c.length <= sumBy sizeY (p.items.take i) /\
        mts (mng B) (Ydo Ls) aS p.items 0 (aS p.items) (mS p f) f.items = (mts (mng B) (Ydo Ls) aS (p.items.drop i) i (aS p.items) (mS p f) (f.items.drop (kS B Ls p f o i))).map (c ++ ·)) /\
    (bS B Ls p f o i = false -> mts (mng B) (Ydo Ls) aS p.items 0 (aS p.items) (mS p f) f.items = none) := by
  have h := Y1eo hf
  refine Y14z (fun ha => ?_) (fun ha => ?_) i hi
  · rcases h.2 with h | ⟨a, h⟩ <;> omega
  · rcases h.2 with h | ⟨a, h⟩ <;> omega
theorem Y1ko (hf : fS p f = true) {i : Nat} (hi : i < p.items.length) (h : bS B Ls p f o i = true) : (oS B Ls p f o i).length + sizeY (p.items.getD i default) + 1 <= o.length + sizeY p /\
  (¬ (i : Int) = aS p.items -> ¬ (i : Int) + 1 = aS p.items -> kS B Ls p f o i < f.items.length) /\ ((i : Int) + 1 = aS p.items -> kS B Ls p f o i + mS p f <= f.items.length) := by
 obtain ⟨hk, c, hc, hl, _⟩ := (Y14p (B := B) (Ls := Ls) (o := o) hf i (by omega)).1 h
 have hs := Yhj hi
 have hfs := Y1eo hf
 refine ⟨by rw [hc, List.length_append]; omega, fun h1 h2 => ?_, fun h1 => ?_⟩
 ·unfold kF at hk
  rcases hfs.2 with h3 | ⟨a, h3⟩
  ·rw [if_pos (by omega)] at hk; omega
  ·split at hk
   ·omega
   ·first | omega | (rw [if_neg h1] at hk; omega)
 ·unfold kF at hk
  rcases hfs.2 with h3 | ⟨a, h3⟩
  ·omega
  ·rw [if_pos (by omega)] at hk; omega
theorem Y15w (h0 : p.kind = 0) : gS B Ls p f = if fS p f = true then mts (mng B) (Ydo Ls) aS p.items 0 (aS p.items) (mS p f) f.items else none := by
 unfold gS; rw [Yg8, if_neg (by omega), if_pos h0]; rfl
theorem Y1ju (h0 : p.kind = 0) (hf : fS p f = false) : gS B Ls p f = none := by rw [Y15w h0, hf]; rfl
theorem Y1bj (h0 : p.kind = 0) (hf : fS p f = true) : (gS B Ls p f).isSome = bS B Ls p f o p.items.length /\ smO p o (gS B Ls p f) = if bS B Ls p f o p.items.length = true then oS B Ls p f o p.items.length else [] := by
 rw [Y15w h0, if_pos hf]
 have hm := Y14p (B := B) (Ls := Ls) (o := o) hf _ (Nat.le_refl _)
 cases hb : bS B Ls p f o p.items.length with
 | false => rw [hm.2 hb]; exact ⟨rfl, by unfold smO flM; rw [if_pos h0]; rfl⟩
 | true =>
  obtain ⟨_, c, hc, _, he⟩ := hm.1 hb
  rw [he, hc, List.drop_length]
  simp only [mts, Option.map, smO, List.append_nil]
  exact ⟨rfl, rfl⟩
theorem Yoi (x : YS) (r : Option (List YC)) : smO x [] r = r.getD [] := by cases r <;> simp [smO, flM]
theorem Ykz {x : YS} (h : x.kind = 0) : smO x o none = [] := if_pos h
theorem Y1iv {x y : YS} {c : List YC} (h : gS B Ls x y = some c) : c.length = (nS Ls x).length := by
 rw [nS, Y144]; exact Yv4 _ _ _ h
theorem Y14v (x : YS) : (nS Ls x).length <= sizeY x := Yo9 _ _ _ _
theorem Y1lq (hg : good Ls p) (h0 : p.kind = 0) {i : Nat} (hi : i < p.items.length) (ha : (i : Int) + 1 = aS p.items) : nS Ls (p.items.getD i default) = (eV Ls (p.items.getD i default)).map upC /\ (vrS Ls (p.items.getD i default) 0 []) = some (eV Ls (p.items.getD i default)) := by
 obtain ⟨h1, _⟩ := Yph hg h0 hi ha
 have e : eV Ls (p.items.getD i default) = nm (Ydo Ls) aS (p.items.getD i default) 0 := by unfold eV; rw [h1]; rfl
 refine ⟨?_, by rw [e, h1]⟩
 rw [e]
 exact Y11f _ _ _ 0
theorem Y19j (V : List YC) : Ye9 V 0 = V := by simp [Ye9]
theorem Y1dx {V : List YC} {i : Nat} (h : V.length <= i) : Ye9 V i = V.map upC := by simp [Ye9, List.take_of_length_le h, List.drop_eq_nil_of_le h]
theorem Y1cf (V : List YC) (i : Nat) : (Ye9 V i).length = V.length := by simp [Ye9, List.length_take, List.length_drop]; omega
theorem Y118 {V : List YC} {i : Nat} (h : i < V.length) : (Ye9 V i).getD i default = V.getD i default := by
 simp [Ye9, List.getD_eq_getElem?_getD, List.getElem?_append, List.length_take, List.getElem?_drop, Nat.min_eq_left (Nat.le_of_lt h)]
theorem Y18t {V : List YC} {i : Nat} (h : i < V.length) : (Ye9 V i).set i (upC (V.getD i default)) = Ye9 V (i + 1) := by
 apply List.ext_getElem?
 intro j
 simp only [Ye9, List.getElem?_set, List.getElem?_append, List.length_map, List.length_take, List.length_append, List.length_drop, List.getElem?_map, List.getElem?_take, List.getElem?_drop, List.getD_eq_getElem?_getD, Nat.min_eq_left (Nat.le_of_lt h), Nat.min_eq_left (show i + 1 <= V.length from h)]
 by_cases h1 : i = j
 ·subst h1; simp [h]; omega
 ·rw [if_neg h1]
  by_cases h2 : j < i
  ·rw [if_pos h2, if_pos h2, if_pos (by omega), if_pos (by omega)]
  ·rw [if_neg h2, if_neg (by omega)]; congr 1; omega
theorem Y1m3 (x : YC) : (⟨x.name, x.depth, x.form, x.each⟩ : YC) = x := by cases x; rfl
theorem Y1bk (V : List YC) : rp V [] = V := by
 apply List.ext_getElem?
 intro j
 simp only [rp, List.getElem?_map, List.getElem?_range', List.map_nil, List.append_nil, List.range_eq_range']
 by_cases h : j < V.length
 ·simp [h]; exact Y1m3 _
 ·simp [h]
theorem Y11s {V : List YC} {R : List (List YC)} {i : Nat} (h : i < V.length) : (rp V R).getD i default = ⟨(V.getD i default).name, (V.getD i default).depth, (V.getD i default).form, (V.getD i default).each ++ R.map fun c => c.getD i default⟩ := by
 simp [rp, List.getD_eq_getElem?_getD, List.getElem?_range, h]
theorem Yre (V : List YC) (R : List (List YC)) (c : List YC) : Yeo V R c 0 = rp V R := by simp [Yeo]
theorem Y137 {V : List YC} {R : List (List YC)} {c : List YC} {u : Nat} (h : V.length <= u) : Yeo V R c u = rp V (R ++ [c]) := by
 unfold Yeo; rw [List.take_of_length_le (by rw [Yh3]; exact h), List.drop_eq_nil_of_le (by rw [Yh3]; exact h), List.append_nil]
theorem Y11l (V : List YC) (R : List (List YC)) (c : List YC) (u : Nat) : (Yeo V R c u).length = V.length := by
 simp only [Yeo, List.length_append, List.length_take, List.length_drop, Yh3]; omega
theorem Y11p {V : List YC} {R : List (List YC)} {c : List YC} {u : Nat} (h : u < V.length) : (Yeo V R c u).getD u default = (rp V R).getD u default := by
 simp [Yeo, List.getD_eq_getElem?_getD, List.getElem?_append, List.length_take, List.getElem?_drop, Yh3, Nat.min_eq_left (Nat.le_of_lt h)]
theorem Y19y {V : List YC} {R : List (List YC)} {c : List YC} {u : Nat} (h : u < V.length) : (Yeo V R c u).set u ⟨((rp V R).getD u default).name, ((rp V R).getD u default).depth, ((rp V R).getD u default).form, ((rp V R).getD u default).each ++ [c.getD u default]⟩ = Yeo V R c (u + 1) := by
 have e : (⟨((rp V R).getD u default).name, ((rp V R).getD u default).depth, ((rp V R).getD u default).form, ((rp V R).getD u default).each ++ [c.getD u default]⟩ : YC) = (rp V (R ++ [c])).getD u default := by
  rw [Y11s h, Y11s h]; simp
 rw [e]
 apply List.ext_getElem?
 intro j
 have hl := Yh3 V R
 have hl2 := Yh3 V (R ++ [c])
 simp only [Yeo, List.getElem?_set, List.getElem?_append, List.length_take, List.length_append, List.length_drop, List.getElem?_take, List.getElem?_drop, List.getD_eq_getElem?_getD, hl, hl2, Nat.min_eq_left (Nat.le_of_lt h), Nat.min_eq_left (show u + 1 <= V.length from h)]
 by_cases h1 : u = j
 ·subst h1
  rw [if_pos rfl, if_pos (by omega), if_pos (by omega)]
  have : (rp V (R ++ [c]))[u]? = some ((rp V (R ++ [c]))[u]'(by omega)) := List.getElem?_eq_getElem _
  rw [this, if_pos (Nat.lt_succ_self u)]; rfl
 ·rw [if_neg h1]
  by_cases h2 : j < u
  ·rw [if_pos h2, if_pos h2, if_pos (by omega), if_pos (by omega)]
  ·rw [if_neg h2, if_neg (by omega)]; congr 1; omega
abbrev Yut (L : List YC) (u : Nat) : List (List Cell) := (L.take u).map Ylm ++ (L.drop u).map Yd0
theorem Y18m {L : List YC} {u : Nat} (h : u < L.length) : (Yut L u)[u]? = some (Yd0 (L.getD u default)) := by
 simp [Yut, List.getD_eq_getElem?_getD, List.getElem?_append, List.length_take, List.getElem?_drop, h, Nat.min_eq_left (Nat.le_of_lt h)]
theorem Y168 {L : List YC} {u : Nat} (h : u < L.length) : (Yut L u).set u (Ylm (L.getD u default)) = Yut L (u + 1) := by
 apply List.ext_getElem?
 intro j
 simp only [Yut, List.getElem?_set, List.getElem?_append, List.length_map, List.length_take, List.length_append, List.length_drop, List.getElem?_map, List.getElem?_take, List.getElem?_drop, List.getD_eq_getElem?_getD, Nat.min_eq_left (Nat.le_of_lt h), Nat.min_eq_left (show u + 1 <= L.length from h)]
 by_cases h1 : u = j
 ·subst h1; simp [h]; omega
 ·rw [if_neg h1]
  by_cases h2 : j < u
  ·rw [if_pos h2, if_pos h2, if_pos (by omega), if_pos (by omega)]
  ·rw [if_neg h2, if_neg (by omega)]; congr 2; omega
theorem Y1gy (i : Nat) : rS B Ls p f o i 0 = [] /\ qS B Ls p f o i 0 = true := ⟨rfl, rfl⟩
theorem Ywa {i t : Nat} {c : List YC} (h : qS B Ls p f o i t = true) (hc : gS B Ls (p.items.getD i default) (f.items.getD (kS B Ls p f o i + t) default) = some c) : rS B Ls p f o i (t + 1) = rS B Ls p f o i t ++ [c] /\ qS B Ls p f o i (t + 1) = true := by
 unfold rS qS; rw [Yu5 h hc]; exact ⟨rfl, rfl⟩
theorem Ywp {i t : Nat} (h : qS B Ls p f o i t = true) (hc : gS B Ls (p.items.getD i default) (f.items.getD (kS B Ls p f o i + t) default) = none) : rS B Ls p f o i (t + 1) = rS B Ls p f o i t /\ qS B Ls p f o i (t + 1) = false := by
 unfold rS qS; rw [Yu9 h hc]; exact ⟨rfl, rfl⟩
theorem Y18f {i t : Nat} (h : qS B Ls p f o i t = true) : (rS B Ls p f o i t).length = t := Ywt t h
theorem Y1h6 {i t : Nat} (h : qS B Ls p f o i t = false) {n : Nat} (hn : t <= n) : rS B Ls p f o i n = rS B Ls p f o i t /\ qS B Ls p f o i n = false := by
 have e := Ypt h (n - t)
 rw [show t + (n - t) = n by omega] at e
 unfold rS qS at *; rw [e]; exact ⟨rfl, h⟩
end
def Yiq (B : List YB) (Ls : List YS) (p f : YS) (o : List YC) (s t : Nat) : List YC := (gS B Ls (p.items.getD s default) (f.items.getD (kS B Ls p f o s + t) default)).getD []
theorem Y1fm {B : List YB} {Ls : List YS} {p f : YS} {o : List YC} (hk : p.kind = 1) (h : Ye3 p = true) : gS B Ls p f = some [] /\ smO p o (gS B Ls p f) = o := by
 have e : gS B Ls p f = some [] := by unfold gS; rw [Yg8, if_pos hk, if_pos h]
 rw [e]; exact ⟨rfl, List.append_nil o⟩
theorem Y121 {B : List YB} {Ls : List YS} {p f : YS} {o : List YC} (hk : p.kind = 1) (h : Ye3 p = false) (h2 : Ydo Ls p = true) : (gS B Ls p f).isSome = (decide (f.kind = 1) && mng B p f) /\ smO p o (gS B Ls p f) = o := by
 have e : gS B Ls p f = if f.kind = 1 /\ mng B p f = true then some [] else none := by unfold gS; rw [Yg8, if_pos hk, if_neg (by simp [h]), if_pos h2]
 rw [e]
 by_cases hc : f.kind = 1 /\ mng B p f = true
 ·rw [if_pos hc]; exact ⟨by simp [hc.1, hc.2], List.append_nil o⟩
 ·rw [if_neg hc]
  refine ⟨?_, by unfold smO flM; simp only; rw [if_neg (by omega)]⟩
  cases h3 : decide (f.kind = 1) <;> cases h4 : mng B p f <;> simp_all
theorem Y19t {B : List YB} {Ls : List YS} {p f : YS} {o : List YC} (hk : p.kind = 1) (h : Ye3 p = false) (h2 : Ydo Ls p = false) : gS B Ls p f = some [Yje p f] /\ smO p o (gS B Ls p f) = o ++ [Yje p f] := by
 have e : gS B Ls p f = some [Yje p f] := by unfold gS; rw [Yg8, if_pos hk, if_neg (by simp [h]), if_neg (by simp [h2])]
 rw [e]; exact ⟨rfl, rfl⟩
theorem Yp7 {B : List YB} {Ls : List YS} {p f : YS} {o : List YC} (hk : ¬ p.kind = 1) (h0 : ¬ p.kind = 0) : (gS B Ls p f).isSome = (decide (f.kind = p.kind) && decide (f.number = p.number) && decide (f.text = p.text)) /\ smO p o (gS B Ls p f) = o := by
 have e : gS B Ls p f = if f.kind = p.kind /\ f.number = p.number /\ f.text = p.text then some [] else none := by unfold gS; rw [Yg8, if_neg hk, if_neg h0]
 rw [e]
 by_cases hc : f.kind = p.kind /\ f.number = p.number /\ f.text = p.text
 ·rw [if_pos hc]; exact ⟨by simp [hc.1, hc.2.1, hc.2.2], List.append_nil o⟩
 ·rw [if_neg hc]
  refine ⟨?_, by unfold smO flM; simp only; rw [if_neg h0]⟩
  symm; simp only [Option.isSome]; rw [Bool.eq_false_iff]; simp only [ne_eq, Bool.and_eq_true, decide_eq_true_eq]; rintro ⟨⟨a, b⟩, c⟩; exact hc ⟨a, b, c⟩
theorem Yyd (o : List YC) (p f : YS) : o.map Yd0 ++ [[cI p.kind, cI p.number, cS p.text, Cell.list (List.map Yd2 p.scopes), Cell.list (List.map Ycz p.items), cI 0, cI f.kind, cI f.number, cS f.text, Cell.list (List.map Yd2 f.scopes), Cell.list (List.map Ycz f.items), Cell.list []]] = (o ++ [Yje p f]).map Yd0 :=
 Yd4 (C := Yd0) o (Yje p f)
def mtB (B : List YB) (Ls : List YS) (p f : YS) : Bool := okL Ls && Ydk p && (vrS Ls p 0 []).isSome && Yqs B && Ydk f && (gS B Ls p f).isSome
def mtO (B : List YB) (Ls : List YS) (p f : YS) : List YC := if mtB B Ls p f = true then (gS B Ls p f).getD [] else []
theorem Ysc {Ls : List YS} {p : YS} (hp : Ydk p = true) (hv : (vrS Ls p 0 []).isSome = true) : good Ls p /\ sizeY p <= 2000 /\ Ydp p <= 40 := by
 simp only [Ydk, Bool.and_eq_true, decide_eq_true_eq] at hp
 obtain ⟨r, hr⟩ := Option.isSome_iff_exists.1 hv
 exact ⟨⟨hp.2, 0, [], r, by omega, hr⟩, hp.1.1, hp.1.2⟩
end Go.Proofs.YtclpofblehlojaaGreat
end
section
namespace Go.Proofs.YtclpofblehlojaaGreat
open Go Ab
def alM (g : YS -> YS -> Option (List YC)) : List YS -> List YS -> Option (List YC)
 | [], _ => some []
 | x :: r, fs => match g x (fs.getD 0 default) with
  | none => none
  | some c => match alM g r (fs.drop 1) with
   | none => none
   | some d => some (c ++ d)
def alO (o : List YC) (r : Option (List YC)) : List YC := match r with | none => [] | some c => o ++ c
theorem Yoq (g : YS -> YS -> Option (List YC)) : ∀ (A C : List YS) (fs : List YS), alM g (A ++ C) fs = match alM g A fs with | none => none | some c => match alM g C (fs.drop A.length) with | none => none | some d => some (c ++ d)
 | [], C, fs => by
  simp only [List.nil_append, alM, List.length_nil, List.drop_zero]
  cases alM g C fs <;> rfl
 | y :: A, C, fs => by
  have e : (fs.drop 1).drop A.length = fs.drop (y :: A).length := by rw [List.drop_drop, List.length_cons, Nat.add_comm]
  simp only [List.cons_append, alM, Yoq g A C, e]
  cases g y (fs.getD 0 default) with
  | none => rfl
  | some c =>
   cases alM g A (fs.drop 1) with
   | none => rfl
   | some d =>
    cases alM g C (fs.drop (y :: A).length) with
    | none => rfl
    | some d2 => simp [List.append_assoc]
theorem Y1c1 {g : YS -> YS -> Option (List YC)} {ps fs : List YS} {k : Nat} (h : k < ps.length) : alM g (ps.take (k + 1)) fs = match alM g (ps.take k) fs with | none => none | some c => (match g (ps.getD k default) (fs.getD k default) with | none => none | some d => some (c ++ d)) := by
 have e : (fs.drop k).getD 0 default = fs.getD k default := by simp [List.getD_eq_getElem?_getD]
 rw [Ydn h, Yoq, List.length_take, Nat.min_eq_left (Nat.le_of_lt h)]
 simp only [alM, e]
 cases alM g (ps.take k) fs with
 | none => rfl
 | some c => cases g (ps.getD k default) (fs.getD k default) <;> simp
theorem Y1gl {g : YS -> YS -> Option (List YC)} {ps fs : List YS} {o : List YC} : alO o (alM g (ps.take 0) fs) = o /\ (alM g (ps.take 0) fs).isSome = true := by
 simp [alM, alO]
theorem Y1lb {g : YS -> YS -> Option (List YC)} {ps fs : List YS} {o : List YC} {k : Nat} (h : k < ps.length) (hs : (alM g (ps.take k) fs).isSome = true) :
  (alM g (ps.take (k + 1)) fs).isSome = (g (ps.getD k default) (fs.getD k default)).isSome /\ ((g (ps.getD k default) (fs.getD k default)).isSome = true -> alO o (alM g (ps.take (k + 1)) fs) = smO (ps.getD k default) (alO o (alM g (ps.take k) fs)) (g (ps.getD k default) (fs.getD k default))) := by
 obtain ⟨c, hc⟩ := Option.isSome_iff_exists.1 hs
 rw [Y1c1 h, hc]
 cases g (ps.getD k default) (fs.getD k default) with
 | none => exact ⟨rfl, fun h => by cases h⟩
 | some d => exact ⟨rfl, fun _ => by simp [alO, smO, List.append_assoc]⟩
theorem Y1gp {g : YS -> YS -> Option (List YC)} {ps fs : List YS} {k : Nat} (h : (alM g (ps.take k) fs).isSome = false) : alM g ps fs = none := by
 have e := Yoq g (ps.take k) (ps.drop k) fs
 rw [List.take_append_drop] at e
 cases h2 : alM g (ps.take k) fs with
 | none => rw [h2] at e; exact e
 | some c => rw [h2] at h; cases h
theorem Y1j4 {g : YS -> YS -> Option (List YC)} {ps fs : List YS} {k : Nat} (h : ps.length <= k) : alM g (ps.take k) fs = alM g ps fs := by rw [List.take_of_length_le h]
theorem Y13x {g : YS -> YS -> Option (List YC)} : ∀ (ps : List YS) (fs : List YS) (c : List YC), (∀ x ∈ ps, ∀ f c, g x f = some c -> c.length <= sizeY x) -> alM g ps fs = some c -> c.length <= sumBy sizeY ps
 | [], fs, c, _, e => by simp only [alM, Option.some.injEq] at e; subst e; simp [sumBy]
 | x :: r, fs, c, h, e => by
  simp only [alM] at e
  simp only [sumBy]
  split at e
  ·cases e
  ·rename_i c1 h1
   split at e
   ·cases e
   ·rename_i c2 h2
    simp only [Option.some.injEq] at e; subst e
    have := Y13x r _ _ (fun y hy => h y (List.mem_cons_of_mem _ hy)) h2
    have := h x List.mem_cons_self _ _ h1
    rw [List.length_append]; omega
theorem Y12z (g : YS -> YS -> Option (List YC)) : ∀ (ps fs : List YS) (n : Nat), ps.length <= n -> alM g ps (fs.take n) = alM g ps fs
 | [], _, _, _ => rfl
 | x :: r, fs, n, h => by
  cases n with
  | zero => simp at h
  | succ n =>
   have h' : r.length <= n := by simpa using h
   cases fs with
   | nil => simp [alM]
   | cons f fs => simp only [alM, List.take_succ_cons, List.drop_succ_cons, List.drop_zero, List.getD_cons_zero, Y12z g r fs n h']
theorem Yqb {M : YS -> YS -> Bool} {H : YS -> Bool} {A : List YS -> Int} {a : Int} {m : Nat} : ∀ (l : List YS) (i : Int) (fs : List YS), (∀ k : Nat, k < l.length -> i + k ≠ a /\ i + k + 1 ≠ a) -> mts M H A l i a m fs = alM (mt M H A) l fs
 | [], _, _, _ => by simp [mts, alM]
 | x :: r, i, fs, h => by
  have h0 := h 0 (by simp)
  have ih := Yqb (M := M) (H := H) (A := A) (a := a) (m := m) r (i + 1) (fs.drop 1) (fun k hk => by
   have := h (k + 1) (by simp; omega)
   rw [show i + ((k + 1 : Nat) : Int) = i + 1 + (k : Int) by omega] at this; exact this)
  simp only [mts, alM]
  rw [if_neg (by simpa using h0.1), if_neg (by simpa using h0.2), ih]
  all_goals rfl
theorem Y15d {M : YS -> YS -> Bool} {H : YS -> Bool} {A : List YS -> Int} {a : Int} {m : Nat} {x y : YS} {post : List YS} : ∀ (pre : List YS) (i : Int) (fs : List YS), i + pre.length + 1 = a ->
  mts M H A (pre ++ x :: y :: post) i a m fs = match alM (mt M H A) pre fs with | none => none | some c1 => (match mtr (mt M H A x) ((fs.drop pre.length).take m) with | none => none | some R => (match alM (mt M H A) post (fs.drop (pre.length + m)) with | none => none | some c2 => some (c1 ++ (rp (nm H A x 1) R ++ c2))))
 | [], i, fs, h => by
  have h1 : ¬ i = a := by simp at h; omega
  have h2 : i + 1 = a := by simpa using h
  have e := Yqb (M := M) (H := H) (A := A) (a := a) (m := m) post (i + 1 + 1) (fs.drop m) (fun k _ => by omega)
  simp only [List.nil_append, mts, alM, List.length_nil, List.drop_zero, Nat.zero_add]
  rw [if_neg h1, if_pos h2, if_pos h2, e]
  all_goals rfl
 | z :: pre, i, fs, h => by
  have hl : ((z :: pre).length : Int) = pre.length + 1 := by simp
  have h1 : ¬ i = a := by omega
  have h2 : ¬ i + 1 = a := by omega
  have ih := Y15d (M := M) (H := H) (A := A) (a := a) (m := m) (x := x) (y := y) (post := post) pre (i + 1) (fs.drop 1) (by omega)
  have e1 : (fs.drop 1).drop pre.length = fs.drop (z :: pre).length := by rw [List.drop_drop, List.length_cons, Nat.add_comm]
  have e2 : (fs.drop 1).drop (pre.length + m) = fs.drop ((z :: pre).length + m) := by rw [List.drop_drop, List.length_cons]; congr 1; omega
  simp only [List.cons_append, mts, alM]
  rw [if_neg h1, if_neg h2, ih, e1, e2]
  cases mt M H A z (fs.getD 0 default) with
  | none => rfl
  | some c =>
   simp only
   cases alM (mt M H A) pre (fs.drop 1) with
   | none => rfl
   | some c1 =>
    simp only
    cases mtr (mt M H A x) ((fs.drop (z :: pre).length).take m) with
    | none => rfl
    | some R =>
     simp only
     cases alM (mt M H A) post (fs.drop ((z :: pre).length + m)) with
     | none => rfl
     | some c2 => simp [List.append_assoc]
def gI (B : List YB) (Ls : List YS) : YS -> YS -> Option (List YC) := mt (mng B) (Yfr Ls) atI
def nI (Ls : List YS) (x : YS) : List YC := nm (Yfr Ls) atI x 1
def aT (p : YS) : Nat := (atI p.items - 1).toNat
def xI (p : YS) : YS := p.items.getD (aT p) default
def mI2 (p f : YS) : Nat := ((f.items.length : Int) - ((p.items.length : Int) - 2)).toNat
def rI (B : List YB) (Ls : List YS) (p f : YS) (t : Nat) : List (List YC) := (rws (gI B Ls (xI p)) f.items (aT p) t).1
def qI (B : List YB) (Ls : List YS) (p f : YS) (t : Nat) : Bool := (rws (gI B Ls (xI p)) f.items (aT p) t).2
section
variable {B : List YB} {Ls : List YS} {p f : YS} {o : List YC}
theorem Y18e {x y : YS} {c : List YC} (h : gI B Ls x y = some c) : c.length = (nI Ls x).length := by
 rw [nI, Y144]; exact Yv4 _ _ _ h
theorem Yxj (x : YS) : (nI Ls x).length <= sizeY x := Yo9 _ _ _ _
theorem Y1h4 {ps fs : List YS} {c : List YC} (h : alM (gI B Ls) ps fs = some c) : c.length <= sumBy sizeY ps :=
 Y13x ps fs c (fun x _ f c e => by have := Y18e e; have := Yxj (Ls := Ls) x; omega) h
theorem Y145 {ps fs : List YS} : (alO o (alM (gI B Ls) ps fs)).length <= o.length + sumBy sizeY ps := by
 cases h : alM (gI B Ls) ps fs with
 | none => simp [alO]
 | some c => have := Y1h4 h; simp only [alO, List.length_append]; omega
theorem Ys2 (h0 : p.kind = 0) : gI B Ls p f = if Ylr (atI p.items) p.items f = true then mts (mng B) (Yfr Ls) atI p.items 0 (atI p.items) (Yhh (atI p.items) p.items.length f.items.length).toNat f.items else none := by
 unfold gI; rw [Yg8, if_neg (by omega), if_pos h0]
theorem Y1fa (h0 : p.kind = 0) (hf : ¬ f.kind = 0) : gI B Ls p f = none := by
 rw [Ys2 h0, if_neg (by simp [Ylr, hf])]
theorem Y15x (h0 : p.kind = 0) (hf : f.kind = 0) (ha : atI p.items < 0) : gI B Ls p f = if p.items.length = f.items.length then alM (gI B Ls) p.items f.items else none := by
 have e : Ylr (atI p.items) p.items f = decide (f.items.length = p.items.length) := by
  simp only [Ylr, Yhh, if_neg (show ¬ 0 <= atI p.items by omega), hf]; simp; omega
 rw [Ys2 h0, e, Yqb _ _ _ (fun k _ => by omega)]
 by_cases h : p.items.length = f.items.length
 ·rw [if_pos h, if_pos (by simp [h])]; rfl
 ·rw [if_neg h, if_neg (by simp; omega)]
theorem Y1j7 (h0 : p.kind = 0) (hf : f.kind = 0) (ha : 0 <= atI p.items) (hm : (f.items.length : Int) - ((p.items.length : Int) - 2) < 0) : gI B Ls p f = none := by
 have e : Ylr (atI p.items) p.items f = false := by
  simp only [Ylr, Yhh, if_pos ha]; simp; omega
 rw [Ys2 h0, e]; rfl
theorem Yxb (h0 : p.kind = 0) (hf : f.kind = 0) (ha : 1 <= atI p.items) (hl : atI p.items < p.items.length) (hm : 0 <= (f.items.length : Int) - ((p.items.length : Int) - 2)) :
  gI B Ls p f = match alM (gI B Ls) (p.items.take (aT p)) (f.items.take (aT p)) with | none => none | some c1 => if qI B Ls p f (mI2 p f) = true then (match alM (gI B Ls) (p.items.drop (aT p + 2)) (f.items.drop (aT p + mI2 p f)) with | none => none | some c2 => some (c1 ++ (rp (nI Ls (xI p)) (rI B Ls p f (mI2 p f)) ++ c2))) else none := by
 have e : Ylr (atI p.items) p.items f = true := by
  simp only [Ylr, Yhh, if_pos (show 0 <= atI p.items by omega), hf]; simp; omega
 have ea : (aT p : Int) + 1 = atI p.items := by unfold aT; omega
 have em : (Yhh (atI p.items) p.items.length f.items.length).toNat = mI2 p f := by unfold Yhh mI2; rw [if_pos (by omega)]
 have h1 : aT p < p.items.length := by omega
 have h2 : aT p + 1 < p.items.length := by omega
 have es : p.items = p.items.take (aT p) ++ (xI p :: p.items.getD (aT p + 1) default :: p.items.drop (aT p + 2)) := by
  have e1 : p.items.drop (aT p) = xI p :: p.items.drop (aT p + 1) := by
   rw [List.drop_eq_getElem_cons h1]; simp [xI, h1]
  have e2 : p.items.drop (aT p + 1) = p.items.getD (aT p + 1) default :: p.items.drop (aT p + 2) := by
   rw [List.drop_eq_getElem_cons h2]; simp [h2]
  rw [<- e2, <- e1, List.take_append_drop]
 have el : (p.items.take (aT p)).length = aT p := by rw [List.length_take, Nat.min_eq_left (by omega)]
 have er : aT p + mI2 p f <= f.items.length := by unfold mI2; omega
 rw [Ys2 h0, e, if_pos rfl, em]
 have k := Y15d (M := mng B) (H := Yfr Ls) (A := atI) (a := atI p.items) (m := mI2 p f) (x := xI p) (y := p.items.getD (aT p + 1) default) (post := p.items.drop (aT p + 2)) (p.items.take (aT p)) 0 f.items (by rw [el]; omega)
 rw [<- es, el] at k
 rw [k, Yxa (mI2 p f) er, Y12z _ _ _ _ (by rw [el]; exact Nat.le_refl _)]
 show (match alM (gI B Ls) _ _ with | none => none | some c1 => _) = _
 cases alM (gI B Ls) (p.items.take (aT p)) f.items with
 | none => rfl
 | some c1 =>
  show (match (if qI B Ls p f (mI2 p f) = true then some (rI B Ls p f (mI2 p f)) else none) with | none => none | some R => _) = _
  by_cases hq : qI B Ls p f (mI2 p f) = true
  ·rw [if_pos hq]; simp only [hq, if_pos]; rfl
  ·rw [if_neg hq]; simp only; rw [if_neg hq]
theorem Y1it (h0 : p.kind = 0) (hf : f.kind = 0) (ha : 1 <= atI p.items) (hl : atI p.items < p.items.length) (hm : 0 <= (f.items.length : Int) - ((p.items.length : Int) - 2)) (h : (alM (gI B Ls) (p.items.take (aT p)) (f.items.take (aT p))).isSome = false) : gI B Ls p f = none := by
 rw [Yxb h0 hf ha hl hm]
 cases h2 : alM (gI B Ls) (p.items.take (aT p)) (f.items.take (aT p)) with
 | none => rfl
 | some c => rw [h2] at h; cases h
theorem Y1g1 {t : Nat} (h : qI B Ls p f t = false) {n : Nat} (hn : t <= n) : qI B Ls p f n = false := by
 have e := Ypt h (n - t)
 rw [show t + (n - t) = n by omega] at e
 unfold qI at *; rw [e]; exact h
theorem Y1cd (h0 : p.kind = 0) (hf : f.kind = 0) (ha : 1 <= atI p.items) (hl : atI p.items < p.items.length) (hm : 0 <= (f.items.length : Int) - ((p.items.length : Int) - 2)) {t : Nat} (ht : t <= mI2 p f) (h : qI B Ls p f t = false) : gI B Ls p f = none := by
 rw [Yxb h0 hf ha hl hm, Y1g1 h ht]
 cases alM (gI B Ls) (p.items.take (aT p)) (f.items.take (aT p)) <;> rfl
theorem Y1fg (h0 : p.kind = 0) (hf : f.kind = 0) (ha : 1 <= atI p.items) (hl : atI p.items < p.items.length) (hm : 0 <= (f.items.length : Int) - ((p.items.length : Int) - 2)) (h : (alM (gI B Ls) (p.items.take (aT p)) (f.items.take (aT p))).isSome = true) (hq : qI B Ls p f (mI2 p f) = true) :
  (gI B Ls p f).isSome = (alM (gI B Ls) (p.items.drop (aT p + 2)) (f.items.drop (aT p + mI2 p f))).isSome /\ smO p o (gI B Ls p f) = alO (alO o (alM (gI B Ls) (p.items.take (aT p)) (f.items.take (aT p))) ++ rp (nI Ls (xI p)) (rI B Ls p f (mI2 p f))) (alM (gI B Ls) (p.items.drop (aT p + 2)) (f.items.drop (aT p + mI2 p f))) := by
 obtain ⟨c, hc⟩ := Option.isSome_iff_exists.1 h
 rw [Yxb h0 hf ha hl hm, hc]
 simp only [hq, ↓reduceIte]
 cases alM (gI B Ls) (p.items.drop (aT p + 2)) (f.items.drop (aT p + mI2 p f)) with
 | none => exact ⟨rfl, by simp [smO, flM, h0, alO]⟩
 | some d => exact ⟨rfl, by simp [smO, alO, List.append_assoc]⟩
theorem Y1df (h0 : p.kind = 0) (hf : f.kind = 0) (ha : atI p.items < 0) (hl : p.items.length = f.items.length) : (gI B Ls p f).isSome = (alM (gI B Ls) p.items f.items).isSome /\ smO p o (gI B Ls p f) = alO o (alM (gI B Ls) p.items f.items) := by
 rw [Y15x h0 hf ha, if_pos hl]
 cases alM (gI B Ls) p.items f.items with
 | none => exact ⟨rfl, by simp [smO, flM, h0, alO]⟩
 | some d => exact ⟨rfl, rfl⟩
theorem Y1g4 {t : Nat} {c : List YC} (h : qI B Ls p f t = true) (hc : gI B Ls (xI p) (f.items.getD (aT p + t) default) = some c) : rI B Ls p f (t + 1) = rI B Ls p f t ++ [c] /\ qI B Ls p f (t + 1) = true := by
 unfold rI qI; rw [Yu5 h hc]; exact ⟨rfl, rfl⟩
theorem Y1g8 {t : Nat} (h : qI B Ls p f t = true) (hc : gI B Ls (xI p) (f.items.getD (aT p + t) default) = none) : qI B Ls p f (t + 1) = false := by
 unfold qI; rw [Yu9 h hc]
theorem Y1hl {t : Nat} (h : qI B Ls p f t = true) : (rI B Ls p f t).length = t := Ywt t h
def Yi1 (B : List YB) (Ls : List YS) (p f : YS) (t : Nat) : List YC := (gI B Ls (xI p) (f.items.getD (aT p + t) default)).getD []
theorem Ylg (hg : good Ls p) (h0 : p.kind = 0) : atI p.items = aS p.items /\ (atI p.items = -1 ∨ 1 <= atI p.items /\ atI p.items < p.items.length) := by
 have hs := Ykx hg h0
 have e1 : aS p.items = atI p.items := by rw [(Y111 hs).1]; exact if_pos hs
 refine ⟨e1.symm, ?_⟩
 rcases Y1ew p.items with h | ⟨a, h1, h2, h3⟩
 ·exact .inl (by rw [<- e1]; exact h)
 ·exact .inr ⟨by omega, by omega⟩
theorem Yoz (ha : 1 <= atI p.items) (hl : atI p.items < p.items.length) : (aT p : Int) = atI p.items - 1 /\ aT p + 2 <= p.items.length := by
 unfold aT; omega
theorem Y14l (hg : good Ls p) (h0 : p.kind = 0) (ha : 1 <= atI p.items) (hl : atI p.items < p.items.length) : good Ls (xI p) /\ xI p ∈ p.items := by
 have h := Yoz ha hl
 have e := Ylg hg h0
 exact ⟨Yhp hg h0 (k := aT p) (by omega) (by omega), Yd6 (by omega)⟩
theorem Y1k6 (hL : Ls.all Yfo = true) (hg : good Ls p) (h0 : p.kind = 0) (ha : 1 <= atI p.items) (hl : atI p.items < p.items.length) : vrI Ls (xI p) 1 [] = some (nI Ls (xI p)) := by
 have h := Yoz ha hl
 have e := Ylg hg h0
 have hL' := List.all_eq_true.1 hL
 have hx := Y14l hg h0 ha hl
 have h1 := (Yph hg h0 (k := aT p) (by omega) (by omega)).2
 have h2 := (Y146 hL' (xI p) hx.1.1 1 [] (by simp)).1
 have h3 := (Y151 (M := fun _ _ => true) hL' (xI p) hx.1).2 1
 rw [h2]
 show vrS Ls (p.items.getD (aT p) default) 1 [] = some (nm (Yfr Ls) atI (xI p) 1)
 rw [h1]; exact congrArg some h3
theorem Yp1 {L : List YS} {z : YS} (h : z ∈ L) : ∃ k, k < L.length /\ L.getD k default = z := by
 obtain ⟨k, hk, e⟩ := List.mem_iff_getElem.1 h
 exact ⟨k, hk, by simp [hk, e]⟩
theorem Y1de (hg : good Ls p) (h0 : p.kind = 0) (ha : 1 <= atI p.items) (hl : atI p.items < p.items.length) (hd : Ydp p <= 40) : ∀ z ∈ p.items.take (aT p), good Ls z /\ Ydp z <= 40 := by
 intro z hz
 have h := Yoz ha hl
 have e := Ylg hg h0
 obtain ⟨k, hk, rfl⟩ := Yp1 hz
 rw [List.length_take] at hk
 have e2 : (p.items.take (aT p)).getD k default = p.items.getD k default := by
  simp only [List.getD_eq_getElem?_getD, List.getElem?_take]; rw [if_pos (by omega)]
 rw [e2]
 have := Yh7 (t := p) (k := k) (by omega)
 exact ⟨Yhp hg h0 (by omega) (by omega), by omega⟩
theorem Y1bi (hg : good Ls p) (h0 : p.kind = 0) (ha : 1 <= atI p.items) (hl : atI p.items < p.items.length) (hd : Ydp p <= 40) : ∀ z ∈ p.items.drop (aT p + 2), good Ls z /\ Ydp z <= 40 := by
 intro z hz
 have h := Yoz ha hl
 have e := Ylg hg h0
 obtain ⟨k, hk, rfl⟩ := Yp1 hz
 rw [List.length_drop] at hk
 have e2 : (p.items.drop (aT p + 2)).getD k default = p.items.getD (aT p + 2 + k) default := by
  simp only [List.getD_eq_getElem?_getD, List.getElem?_drop]
 rw [e2]
 have := Yh7 (t := p) (k := aT p + 2 + k) (by omega)
 exact ⟨Yhp hg h0 (by omega) (by omega), by omega⟩
theorem Y18s (hg : good Ls p) (h0 : p.kind = 0) (ha : atI p.items < 0) (hd : Ydp p <= 40) : ∀ z ∈ p.items, good Ls z /\ Ydp z <= 40 := by
 intro z hz
 have e := Ylg hg h0
 obtain ⟨k, hk, rfl⟩ := Yp1 hz
 have := Yh7 (t := p) (k := k) hk
 exact ⟨Yhp hg h0 hk (by omega), by omega⟩
theorem Yq7 {α : Type} (c : α -> Nat) (L : List α) (i : Nat) : sumBy c (L.drop i) <= sumBy c L := by
 have e : sumBy c (L.take i ++ L.drop i) = sumBy c L := by rw [List.take_append_drop]
 rw [Yes] at e; omega
theorem Y11c (ha : 1 <= atI p.items) (hl : atI p.items < p.items.length) : sumBy sizeY (p.items.take (aT p)) + sizeY (xI p) + sumBy sizeY (p.items.drop (aT p + 2)) + 1 <= sizeY p /\ sumBy wY (p.items.take (aT p)) <= wY p /\ wY (xI p) <= wY p /\ sumBy wY (p.items.drop (aT p + 2)) <= wY p /\ sumBy wY p.items <= wY p := by
 have h := Yoz ha hl
 have g1 := Ye6 p
 have g2 := Yfq p
 have g3 := Yg2 wY p.items (aT p)
 have g4 := Yq7 wY p.items (aT p + 2)
 have g5 := Yew wY (Yd6 (L := p.items) (k := aT p) (by omega))
 have g6 := Yve sizeY (L := p.items) (k := aT p) (by omega)
 have g7 := Yve sizeY (L := p.items) (k := aT p + 1) (by omega)
 have e : sumBy sizeY (p.items.take (aT p) ++ p.items.drop (aT p)) = sumBy sizeY p.items := by rw [List.take_append_drop]
 rw [Yes] at e
 refine ⟨?_, by omega, ?_, by omega, by omega⟩
 ·show _ + sizeY (p.items.getD (aT p) default) + _ + 1 <= _
  rw [show aT p + 1 + 1 = aT p + 2 by omega] at g7; omega
 ·show wY (p.items.getD (aT p) default) <= _
  omega
def fI (p f : YS) : Bool := decide (p.kind = 0) && decide (f.kind = 0) && decide (1 <= atI p.items) && decide (atI p.items < p.items.length) && decide (0 <= (f.items.length : Int) - ((p.items.length : Int) - 2))
theorem Yhw (h : fI p f = true) : p.kind = 0 /\ f.kind = 0 /\ 1 <= atI p.items /\ atI p.items < p.items.length /\ 0 <= (f.items.length : Int) - ((p.items.length : Int) - 2) := by
 simp only [fI, Bool.and_eq_true, decide_eq_true_eq] at h; exact ⟨h.1.1.1.1, h.1.1.1.2, h.1.1.2, h.1.2, h.2⟩
theorem Y1ki (h0 : p.kind = 0) (hf : f.kind = 0) (ha : 0 <= atI p.items) (hg : good Ls p) (hm : 0 <= (f.items.length : Int) - ((p.items.length : Int) - 2)) : fI p f = true := by
 have e := (Ylg hg h0).2
 simp only [fI, Bool.and_eq_true, decide_eq_true_eq]; omega
theorem Ym9 (h : fI p f = true) : (aT p : Int) = atI p.items - 1 /\ aT p + 2 <= p.items.length /\ (mI2 p f : Int) = (f.items.length : Int) - ((p.items.length : Int) - 2) /\ aT p + mI2 p f <= f.items.length := by
 obtain ⟨_, _, ha, hl, hm⟩ := Yhw h
 have := Yoz ha hl
 unfold mI2; omega
theorem Y1ih (h : fI p f = true) (hg : good Ls p) : good Ls (xI p) /\ xI p ∈ p.items /\ Ydp (xI p) + 1 <= Ydp p /\ sizeY (xI p) <= sizeY p /\ wY (xI p) <= wY p := by
 obtain ⟨h0, _, ha, hl, _⟩ := Yhw h
 have h1 := Y14l hg h0 ha hl
 have h2 := Y11c ha hl
 have h3 := Yh7 (t := p) (k := aT p) (by have := Yoz ha hl; omega)
 refine ⟨h1.1, h1.2, ?_, by omega, by omega⟩
 show Ydp (p.items.getD (aT p) default) + 1 <= _
 omega
theorem Y1he (h : fI p f = true) (hn : (alM (gI B Ls) (p.items.take (aT p)) (f.items.take (aT p))).isSome = false) : gI B Ls p f = none := by
 obtain ⟨h0, hf, ha, hl, hm⟩ := Yhw h
 exact Y1it h0 hf ha hl hm hn
theorem Y1dv (h : fI p f = true) {t : Nat} (ht : t <= mI2 p f) (hq : qI B Ls p f t = false) : gI B Ls p f = none := by
 obtain ⟨h0, hf, ha, hl, hm⟩ := Yhw h
 exact Y1cd h0 hf ha hl hm ht hq
theorem Y1gt (h : fI p f = true) (hn : (alM (gI B Ls) (p.items.take (aT p)) (f.items.take (aT p))).isSome = true) (hq : qI B Ls p f (mI2 p f) = true) :
  (gI B Ls p f).isSome = (alM (gI B Ls) (p.items.drop (aT p + 2)) (f.items.drop (aT p + mI2 p f))).isSome /\ smO p o (gI B Ls p f) = alO (alO o (alM (gI B Ls) (p.items.take (aT p)) (f.items.take (aT p))) ++ rp (nI Ls (xI p)) (rI B Ls p f (mI2 p f))) (alM (gI B Ls) (p.items.drop (aT p + 2)) (f.items.drop (aT p + mI2 p f))) := by
 obtain ⟨h0, hf, ha, hl, hm⟩ := Yhw h
 exact Y1fg h0 hf ha hl hm hn hq
theorem Y1hh (h0 : p.kind = 0) (hf : f.kind = 0) (ha : 0 <= atI p.items) (hm : (f.items.length : Int) - ((p.items.length : Int) - 2) < 0) : gI B Ls p f = none := Y1j7 h0 hf ha hm
theorem Y1la (hL : Ls.all Yfo = true) (hg : good Ls p) (h : fI p f = true) : vrI Ls (xI p) 1 [] = some (nI Ls (xI p)) := by
 obtain ⟨h0, _, ha, hl, _⟩ := Yhw h
 exact Y1k6 hL hg h0 ha hl
theorem Y1dc (h0 : p.kind = 0) (hf : f.kind = 0) (ha : atI p.items < 0) (hl : ¬ p.items.length = f.items.length) : gI B Ls p f = none := by rw [Y15x h0 hf ha, if_neg hl]
theorem Y1ch {t : Nat} (h : (gI B Ls (xI p) (f.items.getD (aT p + t) default)).isSome = true) : (Yi1 B Ls p f t).length = (nI Ls (xI p)).length := by
 obtain ⟨c, hc⟩ := Option.isSome_iff_exists.1 h
 unfold Yi1; rw [hc]; exact Y18e hc
theorem Y152 {t : Nat} (hq : qI B Ls p f t = true) (h : (gI B Ls (xI p) (f.items.getD (aT p + t) default)).isSome = true) : rI B Ls p f t ++ [Yi1 B Ls p f t] = rI B Ls p f (t + 1) /\ qI B Ls p f (t + 1) = true := by
 obtain ⟨c, hc⟩ := Option.isSome_iff_exists.1 h
 have e := Y1g4 hq hc
 have e2 : Yi1 B Ls p f t = c := by unfold Yi1; rw [hc]; rfl
 rw [e2]; exact ⟨e.1.symm, e.2⟩
theorem Y1gg (hk : p.kind = 1) (h : Ye3 p = true) : gI B Ls p f = some [] /\ smO p o (gI B Ls p f) = o := by
 have e : gI B Ls p f = some [] := by unfold gI; rw [Yg8, if_pos hk, if_pos h]
 rw [e]; exact ⟨rfl, List.append_nil o⟩
theorem Y1im (hk : p.kind = 1) (h : Ye3 p = false) (h2 : Yfr Ls p = true) : (gI B Ls p f).isSome = (decide (f.kind = 1) && mng B p f) /\ smO p o (gI B Ls p f) = o := by
 have e : gI B Ls p f = if f.kind = 1 /\ mng B p f = true then some [] else none := by unfold gI; rw [Yg8, if_pos hk, if_neg (by simp [h]), if_pos h2]
 rw [e]
 by_cases hc : f.kind = 1 /\ mng B p f = true
 ·rw [if_pos hc]; exact ⟨by simp [hc.1, hc.2], List.append_nil o⟩
 ·rw [if_neg hc]
  refine ⟨?_, by unfold smO flM; simp only; rw [if_neg (by omega)]⟩
  cases h3 : decide (f.kind = 1) <;> cases h4 : mng B p f <;> simp_all
theorem Y1hw (hk : p.kind = 1) (h : Ye3 p = false) (h2 : Yfr Ls p = false) : gI B Ls p f = some [Yje p f] /\ smO p o (gI B Ls p f) = o ++ [Yje p f] := by
 have e : gI B Ls p f = some [Yje p f] := by unfold gI; rw [Yg8, if_pos hk, if_neg (by simp [h]), if_neg (by simp [h2])]
 rw [e]; exact ⟨rfl, rfl⟩
theorem Yzx (hk : ¬ p.kind = 1) (h0 : ¬ p.kind = 0) : (gI B Ls p f).isSome = (decide (f.kind = p.kind) && decide (f.number = p.number) && decide (f.text = p.text)) /\ smO p o (gI B Ls p f) = o := by
 have e : gI B Ls p f = if f.kind = p.kind /\ f.number = p.number /\ f.text = p.text then some [] else none := by unfold gI; rw [Yg8, if_neg hk, if_neg h0]
 rw [e]
 by_cases hc : f.kind = p.kind /\ f.number = p.number /\ f.text = p.text
 ·rw [if_pos hc]; exact ⟨by simp [hc.1, hc.2.1, hc.2.2], List.append_nil o⟩
 ·rw [if_neg hc]
  refine ⟨?_, by unfold smO flM; simp only; rw [if_neg h0]⟩
  symm; simp only [Option.isSome]; rw [Bool.eq_false_iff]; simp only [ne_eq, Bool.and_eq_true, decide_eq_true_eq]; rintro ⟨⟨a, b⟩, c⟩; exact hc ⟨a, b, c⟩
end
end Go.Proofs.YtclpofblehlojaaGreat
end
section
namespace Go.Proofs.YtclpofblehlojaaGreat
open Go Ab
theorem zw {p : Prop} (h : p := by first | with_reducible rfl | exact True.intro | omega | with_reducible assumption | with_reducible exact dT ‹_› | with_reducible exact dF ‹_› | ((first | refine Y1ax ?_ | refine Yq3 ?_ rfl); (first | omega | (simp only [std]; omega) | grind))) : p := h
theorem Y10z {c : List YC} {u : Nat} (h : u < c.length) : ((c.take u).map Ylm ++ (c.drop u).map Yd0)[u]? = some (Ydj (c.getD u default)) := by
 rw [<- Row.eq (C := Yd0) (F := Ydj)]; exact Y18m h
theorem Yzc {c : List YC} {u : Nat} (h : u < c.length) : ((c.take u).map Ylm ++ (c.drop u).map Yd0).set u (Ylm (c.getD u default)) = (c.take (u + 1)).map Ylm ++ (c.drop (u + 1)).map Yd0 := Y168 h
theorem Y158 {c : List YC} {u : Nat} (h : u < c.length) : u < (c.take u).length + (c.drop u).length := by
 rw [List.length_take, List.length_drop]; omega
theorem Y10s (L : List YC) (u : Nat) (x : YC) (y : List Cell) (h : Ydj x = y) : (L.map Yd0).set u y = (L.set u x).map Yd0 := by
 subst h; rw [List.map_set, Row.eq (C := Yd0) (F := Ydj)]
theorem Y1bp {α : Type} (l : List α) (z v : α) : (l ++ [z]).set l.length v = l ++ [v] := by
 rw [List.set_append_right _ _ (Nat.le_refl _)]; simp
theorem Y1co (E : List YC) (z : List Cell) (x : YC) : (E.map Yd0 ++ [z]).set E.length (Ydj x) = (E ++ [x]).map Yd0 := by
 have := Y1bp (E.map Yd0) z (Ydj x)
 rw [List.length_map] at this
 rw [this]; exact Yd4 (C := Yd0) E x
theorem Yxt {V : List YC} {R : List (List YC)} {c : List YC} {u : Nat} (z : List Cell) (h : u < V.length) :
  ((Yeo V R c u).map Yd0).set u [cI ((Yeo V R c u).getD u default).name.kind, cI ((Yeo V R c u).getD u default).name.number, cS ((Yeo V R c u).getD u default).name.text,
   Cell.list (List.map Yd2 ((Yeo V R c u).getD u default).name.scopes), Cell.list (List.map Ycz ((Yeo V R c u).getD u default).name.items), cI ((Yeo V R c u).getD u default).depth,
   cI ((Yeo V R c u).getD u default).form.kind, cI ((Yeo V R c u).getD u default).form.number, cS ((Yeo V R c u).getD u default).form.text,
   Cell.list (List.map Yd2 ((Yeo V R c u).getD u default).form.scopes), Cell.list (List.map Ycz ((Yeo V R c u).getD u default).form.items),
   Cell.list ((List.map Yd0 ((Yeo V R c u).getD u default).each ++ [z]).set ((Yeo V R c u).getD u default).each.length (Ydj (c.getD u default)))] = (Yeo V R c (u + 1)).map Yd0 := by
 rw [Y1co]
 have e := Y10s (Yeo V R c u) u ⟨((Yeo V R c u).getD u default).name, ((Yeo V R c u).getD u default).depth, ((Yeo V R c u).getD u default).form, ((Yeo V R c u).getD u default).each ++ [c.getD u default]⟩ _ rfl
 refine Eq.trans e ?_
 rw [Y11p h, Y19y h]
theorem Yz5 (H : YS -> Bool) (A : List YS -> Int) : ∀ (p : YS) (d : Int), ∀ y ∈ nm H A p d, y.each = [] := by
 intro p
 refine YS.ind (P := fun p => ∀ d, ∀ y ∈ nm H A p d, y.each = []) (fun p ih d y hy => ?_) p
 rw [Ygm] at hy
 split at hy
 ·split at hy
  ·cases hy
  ·rw [List.mem_singleton] at hy; subst hy; rfl
 ·split at hy
  ·have go : ∀ (l : List YS) (i a e : Int), (∀ x ∈ l, ∀ d, ∀ y ∈ nm H A x d, y.each = []) -> ∀ y ∈ nms H A l i a e, y.each = [] := by
    intro l
    induction l with
    | nil => intro i a e _ y hy; simp [nms] at hy
    | cons x r ihr =>
     intro i a e hl y hy
     rw [nms] at hy
     rcases List.mem_append.1 hy with hy | hy
     ·revert hy; repeat' split
      all_goals (intro hy; first | cases hy | exact hl x List.mem_cons_self _ y hy)
     ·exact ihr _ _ _ (fun z hz => hl z (List.mem_cons_of_mem _ hz)) y hy
   exact go p.items _ _ _ ih y hy
  ·cases hy
theorem Y12f {V : List YC} {R : List (List YC)} {c : List YC} {u : Nat} (hV : ∀ y ∈ V, y.each = []) (h : u < V.length) : ((Yeo V R c u).getD u default).each.length = R.length := by
 rw [Y11p h, Y11s h]
 simp only [List.length_append, List.length_map]
 rw [hV _ (Yd6 h)]; simp
section
variable {B : List YB} {Ls : List YS} {p f : YS} {o : List YC} {s t u : Nat}
theorem Y1cn (h : (gS B Ls (p.items.getD s default) (f.items.getD (kS B Ls p f o s + t) default)).isSome = true) : (Yiq B Ls p f o s t).length = (nS Ls (p.items.getD s default)).length := by
 obtain ⟨c, hc⟩ := Option.isSome_iff_exists.1 h
 unfold Yiq; rw [hc]; exact Y1iv hc
theorem Y18x (hq : qS B Ls p f o s t = true) (h : ((gS B Ls (p.items.getD s default) (f.items.getD (kS B Ls p f o s + t) default)).isSome || decide (u = 0)) = true)
  (hc : (gS B Ls (p.items.getD s default) (f.items.getD (kS B Ls p f o s + t) default)).isSome = false ∨ (nS Ls (p.items.getD s default)).length <= u) :
  (Yeo (nS Ls (p.items.getD s default)) (rS B Ls p f o s t) (Yiq B Ls p f o s t) u).map Yd0 = (rp (nS Ls (p.items.getD s default)) (rS B Ls p f o s (t + 1))).map Yd0 := by
 cases hg : gS B Ls (p.items.getD s default) (f.items.getD (kS B Ls p f o s + t) default) with
 | none =>
  rw [hg] at h
  have hu : u = 0 := by simpa using h
  rw [hu, Yre, (Ywp hq hg).1]
 | some c =>
  rw [hg] at hc
  have hu : (nS Ls (p.items.getD s default)).length <= u := by simpa using hc
  have e1 : Yiq B Ls p f o s t = c := by unfold Yiq; rw [hg]; rfl
  rw [Y137 hu, e1, (Ywa hq hg).1]
theorem Y18z (hu : u < (nS Ls (p.items.getD s default)).length) : ((Yeo (nS Ls (p.items.getD s default)) (rS B Ls p f o s t) (Yiq B Ls p f o s t) u).getD u default).each.length = (rS B Ls p f o s t).length :=
 Y12f (Yz5 _ _ _ _) hu
end
section
variable {B : List YB} {Ls : List YS} {p f : YS} {o : List YC}
theorem Y1lk (ha : 0 <= aS p.items) (hm : 0 <= (f.items.length : Int) - ((p.items.length : Int) - 2)) : (mS p f : Int) = (f.items.length : Int) - ((p.items.length : Int) - 2) := by
 unfold mS Yhh; rw [if_pos ha]; omega
theorem Y1ks (ha : aS p.items < 0) : mS p f = 0 := by
 unfold mS Yhh; rw [if_neg (by omega)]; rfl
theorem Y1lx (hk : f.kind = 0) (ha : 0 <= aS p.items) (hm : 0 <= (f.items.length : Int) - ((p.items.length : Int) - 2)) : fS p f = true := by
 rw [Ys9]; unfold Yhh; rw [if_pos ha]; simp only [hk, ha, hm, decide_true, Bool.true_or, Bool.and_true]
theorem Y1m9 (hk : f.kind = 0) (ha : aS p.items < 0) (hm : f.items.length = p.items.length) : fS p f = true := by
 rw [Ys9]; unfold Yhh; rw [if_neg (by omega)]; simp [hk, hm]
theorem Y11m (h0 : p.kind = 0) (h : fS p f = false) : smO p o (gS B Ls p f) = [] /\ (gS B Ls p f).isSome = false := by
 rw [Y1ju h0 h]; exact ⟨Ykz h0, rfl⟩
theorem Y1kb (h0 : p.kind = 0) (hk : ¬ f.kind = 0) : smO p o (gS B Ls p f) = [] /\ (gS B Ls p f).isSome = false := by
 refine Y11m h0 ?_
 rw [Ys9]; simp [hk]
theorem Y1kg (h0 : p.kind = 0) (ha : 0 <= aS p.items) (hm : (f.items.length : Int) - ((p.items.length : Int) - 2) < 0) : smO p o (gS B Ls p f) = [] /\ (gS B Ls p f).isSome = false := by
 refine Y11m h0 ?_
 rw [Ys9]; unfold Yhh; rw [if_pos ha]
 have : ¬ 0 <= (f.items.length : Int) - ((p.items.length : Int) - 2) := by omega
 simp only [this, decide_false, Bool.and_false, Bool.false_and]
theorem Y1l7 (h0 : p.kind = 0) (ha : aS p.items < 0) (hm : ¬ f.items.length = p.items.length) : smO p o (gS B Ls p f) = [] /\ (gS B Ls p f).isSome = false := by
 refine Y11m h0 ?_
 rw [Ys9]
 have : ¬ 0 <= aS p.items := by omega
 simp only [this, hm, decide_false, Bool.or_false, Bool.and_false]
theorem Y1kv (h0 : p.kind = 0) (hf : fS p f = true) (hb : bS B Ls p f o p.items.length = true) : smO p o (gS B Ls p f) = oS B Ls p f o p.items.length /\ (gS B Ls p f).isSome = true := by
 have h := @Y1bj B Ls p f o h0 hf
 rw [if_pos hb] at h; exact ⟨h.2, h.1.trans hb⟩
theorem Y1ll (h0 : p.kind = 0) (hf : fS p f = true) (hb : bS B Ls p f o p.items.length = false) : smO p o (gS B Ls p f) = [] /\ (gS B Ls p f).isSome = false := by
 have h := @Y1bj B Ls p f o h0 hf
 rw [if_neg (by rw [hb]; simp)] at h; exact ⟨h.2, h.1.trans hb⟩
end
section
variable {B : List YB} {Ls : List YS} {p f : YS} {t u : Nat}
theorem Y1ai (hq : qI B Ls p f t = true) (h : (gI B Ls (xI p) (f.items.getD (aT p + t) default)).isSome = true) (hc : (nI Ls (xI p)).length <= u) :
  (Yeo (nI Ls (xI p)) (rI B Ls p f t) (Yi1 B Ls p f t) u).map Yd0 = (rp (nI Ls (xI p)) (rI B Ls p f (t + 1))).map Yd0 := by
 rw [Y137 hc, (Y152 hq h).1]
theorem Y1a8 (hu : u < (nI Ls (xI p)).length) : ((Yeo (nI Ls (xI p)) (rI B Ls p f t) (Yi1 B Ls p f t) u).getD u default).each.length = (rI B Ls p f t).length :=
 Y12f (Yz5 _ _ _ _) hu
end
def atB (p : YS) (s : Nat) : Bool := decide (s < p.items.length) && decide ((s : Int) + 1 = aS p.items)
theorem Yob {p : YS} {s : Nat} (h : atB p s = true) : s < p.items.length /\ (s : Int) + 1 = aS p.items := by
 simpa [atB] using h
theorem Y1jl {p : YS} {s : Nat} (h : s < p.items.length) (h2 : (s : Int) + 1 = aS p.items) : atB p s = true := by
 simp [atB, h, h2]
theorem Y10u (Ls : List YS) (x : YS) : (vrS Ls x 0 []).getD [] = eV Ls x := rfl
theorem Yv5 (l : List YS) : (if okS l = true then atS l else (-1 : Int)) = aS l := rfl
theorem Y1ca (H : YS -> Bool) (A : List YS -> Int) : ∀ (p : YS) (d : Int), ∀ y ∈ nm H A p d, d <= y.depth /\ y.depth <= d + Ydp p := by
 intro p
 refine YS.ind (P := fun p => ∀ d, ∀ y ∈ nm H A p d, d <= y.depth /\ y.depth <= d + Ydp p) (fun p ih d y hy => ?_) p
 rw [Ygm] at hy
 split at hy
 ·split at hy
  ·cases hy
  ·rw [List.mem_singleton] at hy; subst hy
   have : (Ygh p d).depth = d := rfl
   omega
 ·split at hy
  ·have go : ∀ (l : List YS) (i a e : Int) (n : Nat), (∀ x ∈ l, Ydp x + 1 <= n /\ ∀ d, ∀ y ∈ nm H A x d, d <= y.depth /\ y.depth <= d + Ydp x) -> ∀ y ∈ nms H A l i a e, e <= y.depth /\ y.depth <= e + n := by
    intro l
    induction l with
    | nil => intro i a e n _ y hy; simp [nms] at hy
    | cons x r ihr =>
     intro i a e n hl y hy
     rw [nms] at hy
     have hx := hl x List.mem_cons_self
     rcases List.mem_append.1 hy with hy | hy
     ·revert hy; repeat' split
      all_goals (intro hy; first | cases hy | (have := hx.2 _ y hy; omega))
     ·exact ihr _ _ _ n (fun z hz => hl z (List.mem_cons_of_mem _ hz)) y hy
   refine go p.items _ _ _ _ (fun x hx => ⟨?_, ih x hx⟩) y hy
   obtain ⟨k, hk, e⟩ := Yp1 hx
   rw [<- e]; exact Yh7 hk
  ·cases hy
section
variable {B : List YB} {Ls : List YS} {p f : YS} {o : List YC} {s t u k1 : Nat}
theorem Yl0 {x : YS} (h : s < x.items.length) : wY (x.items.getD s default) <= wY x /\ sizeY (x.items.getD s default) <= sizeY x /\ Ydp (x.items.getD s default) <= Ydp x /\ x.items.length <= wY x /\ x.items.getD s default ∈ x.items := by
 have h1 := Yhj h
 have h2 := Yh7 h
 have h3 := Yfq x
 exact ⟨h1.2, by omega, by omega, by omega, Yd6 h⟩
theorem Y174 (x : YS) : x.items.length <= wY x := by have := Yfq x; omega
theorem Y1e9 (hg : good Ls p) (h0 : p.kind = 0) (h : atB p s = true) : good Ls (p.items.getD s default) := by
 have h := Yob h
 have h1 := Yph hg h0 h.1 h.2
 exact ⟨Yhu hg.1 _ (Yd6 h.1), 0, [], _, Int.le_refl _, h1.1⟩
theorem Y1ek (hg : good Ls p) (h0 : p.kind = 0) (h : atB p s = true) : eV Ls (p.items.getD s default) = nm (Ydo Ls) aS (p.items.getD s default) 0 := by
 have h := Yob h
 unfold eV; rw [(Yph hg h0 h.1 h.2).1]; rfl
theorem Y1fc (hg : good Ls p) (h0 : p.kind = 0) (h : atB p s = true) : (eV Ls (p.items.getD s default)).length <= sizeY p := by
 have h1 := Yob h
 rw [Y1ek hg h0 h]
 have h2 := Yo9 (Ydo Ls) aS (p.items.getD s default) 0
 have h3 := Yl0 h1.1
 omega
theorem Y1d0 (hg : good Ls p) (h0 : p.kind = 0) (h : atB p s = true) (hd : Ydp p <= 40) (hu : u < (eV Ls (p.items.getD s default)).length) : 0 <= ((Ye9 (eV Ls (p.items.getD s default)) u).getD u default).depth /\ ((Ye9 (eV Ls (p.items.getD s default)) u).getD u default).depth <= 40 := by
 have h1 := Yob h
 have h3 := Yl0 h1.1
 rw [Y118 hu]
 have hm := Yd6 hu
 rw [Y1ek hg h0 h] at hm ⊢
 have := Y1ca (Ydo Ls) aS (p.items.getD s default) 0 _ hm
 omega
theorem Y1f2 {V : List YC} (h : u < V.length) :
  ((Ye9 V u).map Yd0).set u [cI ((Ye9 V u).getD u default).name.kind, cI ((Ye9 V u).getD u default).name.number, cS ((Ye9 V u).getD u default).name.text,
   Cell.list (List.map Yd2 ((Ye9 V u).getD u default).name.scopes), Cell.list (List.map Ycz ((Ye9 V u).getD u default).name.items), cI (((Ye9 V u).getD u default).depth + 1),
   cI ((Ye9 V u).getD u default).form.kind, cI ((Ye9 V u).getD u default).form.number, cS ((Ye9 V u).getD u default).form.text,
   Cell.list (List.map Yd2 ((Ye9 V u).getD u default).form.scopes), Cell.list (List.map Ycz ((Ye9 V u).getD u default).form.items),
   Cell.list (List.map Yd0 ((Ye9 V u).getD u default).each)] = (Ye9 V (u + 1)).map Yd0 := by
 have e := Y10s (Ye9 V u) u (upC ((Ye9 V u).getD u default)) _ rfl
 refine Eq.trans e ?_
 rw [Y118 h, Y18t h]
theorem Y1je (hg : good Ls p) (h0 : p.kind = 0) (h : atB p s = true) (hu : (eV Ls (p.items.getD s default)).length <= u) : (Ye9 (eV Ls (p.items.getD s default)) u).map Yd0 = (nS Ls (p.items.getD s default)).map Yd0 := by
 have h1 := Yob h
 rw [Y1dx hu, (Y1lq hg h0 h1.1 h1.2).1]
theorem Y1dr : (smO (p.items.getD s default) [] (gS B Ls (p.items.getD s default) (f.items.getD (kS B Ls p f o s + t) default))).map Yd0 = ((Yiq B Ls p f o s t).take 0).map Ylm ++ (Yiq B Ls p f o s t).map Yd0 := by
 rw [Yoi]; rfl
theorem Y1hx (hq : qS B Ls p f o s t = true) : (gS B Ls (p.items.getD s default) (f.items.getD (kS B Ls p f o s + t) default)).isSome = qS B Ls p f o s (t + 1) := by
 cases e : gS B Ls (p.items.getD s default) (f.items.getD (kS B Ls p f o s + t) default) with
 | none => rw [(Ywp hq e).2]; rfl
 | some c => rw [(Ywa hq e).2]; rfl
theorem Y1mc (hq : qS B Ls p f o s t = true) : (qS B Ls p f o s (t + 1) || decide (t + 1 = (rS B Ls p f o s (t + 1)).length + 1)) = true := by
 cases e : gS B Ls (p.items.getD s default) (f.items.getD (kS B Ls p f o s + t) default) with
 | none => rw [(Ywp hq e).1, Y18f hq]; simp
 | some c => rw [(Ywa hq e).2]; rfl
end
section
variable {B : List YB} {Ls : List YS} {p f : YS}
theorem Yzg (h : ¬ p.text.data.toList = [95]) : Ye3 p = false := decide_eq_false h
theorem Y1gk (hk : p.kind = 1) (hu : ¬ p.text.data.toList = [95]) (hl : Ydo Ls p = true) (hf : f.kind = 1) : mng B p f = (gS B Ls p f).isSome := by
 rw [(Y121 (o := []) hk (Yzg hu) hl).1]; simp [hf]
theorem Y1gb (hk : p.kind = 1) (hu : ¬ p.text.data.toList = [95]) (hl : Ydo Ls p = true) (hf : ¬ f.kind = 1) : false = (gS B Ls p f).isSome := by
 rw [(Y121 (o := []) hk (Yzg hu) hl).1]; simp [hf]
theorem Y1hv (hk : p.kind = 1) (hu : ¬ p.text.data.toList = [95]) (hl : Ydo Ls p = false) : true = (gS B Ls p f).isSome := by
 rw [(Y19t (o := []) hk (Yzg hu) hl).1]; rfl
theorem Y15l {a b : ByteArray} : b = a ↔ a.data.toList = b.data.toList :=
 ⟨fun h => by rw [h], fun h => by cases a; cases b; congr 1; exact (Array.toList_inj.1 h).symm⟩
theorem Y1lt (h1 : ¬ p.kind = 1) (h0 : ¬ p.kind = 0) (hk : p.kind = f.kind) (hn : p.number = f.number) : decide (p.text.data.toList = f.text.data.toList) = (gS B Ls p f).isSome := by
 rw [(Yp7 (o := []) h1 h0).1]; simp [hk, hn, Y15l]
theorem Y1lf (h1 : ¬ p.kind = 1) (h0 : ¬ p.kind = 0) (hk : p.kind = f.kind) (hn : ¬ p.number = f.number) : false = (gS B Ls p f).isSome := by
 rw [(Yp7 (o := []) h1 h0).1]; simp [hk.symm, show ¬ f.number = p.number from fun h => hn h.symm]
theorem Y1ke (h1 : ¬ p.kind = 1) (h0 : ¬ p.kind = 0) (hk : ¬ p.kind = f.kind) : false = (gS B Ls p f).isSome := by
 rw [(Yp7 (o := []) h1 h0).1]; simp [show ¬ f.kind = p.kind from fun h => hk h.symm]
end
section
variable {B : List YB} {Ls : List YS} {p f : YS} {o : List YC} {k : Nat}
theorem Y16t {b : Bool} (h : (!b) = false) : b = true := by simpa using h
theorem Y1em {b : Bool} (h : (!b) = true) : b = false := by simpa using h
theorem Y18l (p : YS) : p.items.getD (atI p.items - 1).toNat default = xI p := rfl
theorem Y15b (h : fI p f = true) : (List.take (atI p.items - 1).toNat p.items).length = aT p := by
 have := Ym9 h
 have e : (atI p.items - 1).toNat = aT p := rfl
 rw [e, List.length_take]; omega
theorem Y1dy (h : fI p f = true) : (atI p.items + 1).toNat = aT p + 2 := by
 have := Ym9 h; omega
theorem Yln {α : Type} (L : List α) (n : Nat) : List.take (L.length - n) (List.drop n L) = List.drop n L := by
 apply List.take_of_length_le; rw [List.length_drop]; exact Nat.le_refl _
theorem Y1dg (h : fI p f = true) : ((List.take (p.items.length - (atI p.items + 1).toNat) (List.drop (atI p.items + 1).toNat p.items)).length : Int) = p.items.length - (aT p + 2) := by
 have := Ym9 h
 rw [Yln, List.length_drop]; omega
theorem Y176 (h : fI p f = true) (hk : k < mI2 p f) (hq : qI B Ls p f k = true) (hn : (gI B Ls (xI p) (f.items.getD (aT p + k) default)).isSome = false) : (gI B Ls p f).isSome = false := by
 cases e : gI B Ls (xI p) (f.items.getD (aT p + k) default) with
 | none => rw [Y1dv h hk (Y1g8 hq e)]; rfl
 | some c => rw [e] at hn; cases hn
theorem Y1bl : (smO (xI p) [] (gI B Ls (xI p) (f.items.getD (aT p + k) default))).map Yd0 = ((Yi1 B Ls p f k).take 0).map Ylm ++ (Yi1 B Ls p f k).map Yd0 := by
 rw [Yoi]; rfl
theorem Y1i3 (h : k = mI2 p f) : (rp (nI Ls (xI p)) (rI B Ls p f k)).map Yd0 = (rp (nI Ls (xI p)) (rI B Ls p f (mI2 p f))).map Yd0 := by rw [h]
theorem Y1ht (h : k = mI2 p f) (hq : qI B Ls p f k = true) : qI B Ls p f (mI2 p f) = true := by rw [<- h]; exact hq
end
section
variable {B : List YB} {Ls : List YS} {p f : YS} {o : List YC}
theorem Y1f7 (p : YS) : p.items.getD (aT p) default = xI p := rfl
theorem Y1jj (p : YS) : (atI p.items - 1).toNat = aT p := rfl
theorem Y195 (hg : good Ls p) (h0 : p.kind = 0) (ha : ¬ atI p.items < 0) : ((f.items.length : Int) - ((List.take (atI p.items - 1).toNat p.items).length : Nat) - ((List.take (p.items.length - (atI p.items + 1).toNat) (List.drop (atI p.items + 1).toNat p.items)).length : Nat)) = (f.items.length : Int) - ((p.items.length : Int) - 2) := by
 have h := (Ylg hg h0).2
 rw [Yln, List.length_drop, List.length_take]; omega
theorem Y1kx (hg : good Ls p) (h0 : ¬¬p.kind = 0) (hf : ¬¬f.kind = 0) (ha : ¬ atI p.items < 0) (hc : ¬ ((f.items.length : Int) - ((List.take (atI p.items - 1).toNat p.items).length : Nat) - ((List.take (p.items.length - (atI p.items + 1).toNat) (List.drop (atI p.items + 1).toNat p.items)).length : Nat)) < 0) : fI p f = true := by
 have h0 := Decidable.not_not.1 h0
 have := Y195 (f := f) hg h0 ha
 exact Y1ki h0 (Decidable.not_not.1 hf) (by omega) hg (by omega)
theorem Y1b3 (hg : good Ls p) (h0 : ¬¬p.kind = 0) (hf : ¬¬f.kind = 0) (ha : ¬ atI p.items < 0) (hc : ((f.items.length : Int) - ((List.take (atI p.items - 1).toNat p.items).length : Nat) - ((List.take (p.items.length - (atI p.items + 1).toNat) (List.drop (atI p.items + 1).toNat p.items)).length : Nat)) < 0) : [] = (smO p o (gI B Ls p f)).map Yd0 /\ false = (gI B Ls p f).isSome := by
 have h0 := Decidable.not_not.1 h0
 have := Y195 (f := f) hg h0 ha
 rw [Y1hh h0 (Decidable.not_not.1 hf) (by omega) (by omega), Ykz h0]; exact ⟨rfl, rfl⟩
theorem Y15s (h0 : ¬¬p.kind = 0) (hf : ¬f.kind = 0) : [] = (smO p o (gI B Ls p f)).map Yd0 /\ false = (gI B Ls p f).isSome := by
 have h0 := Decidable.not_not.1 h0
 rw [Y1fa h0 hf, Ykz h0]; exact ⟨rfl, rfl⟩
theorem Y14i (h0 : ¬¬p.kind = 0) (hf : ¬¬f.kind = 0) (ha : atI p.items < 0) (hl : ¬ (p.items.length : Int) = (f.items.length : Int)) : [] = (smO p o (gI B Ls p f)).map Yd0 /\ false = (gI B Ls p f).isSome := by
 have h0 := Decidable.not_not.1 h0
 rw [Y1dc h0 (Decidable.not_not.1 hf) ha (by omega), Ykz h0]; exact ⟨rfl, rfl⟩
theorem Y19c (hf : fI p f = true) (h : (!(alM (gI B Ls) (List.take (aT p) p.items) (List.take (aT p) f.items)).isSome) = true) : [] = (smO p o (gI B Ls p f)).map Yd0 /\ false = (gI B Ls p f).isSome := by
 rw [Y1he hf (Y1em h), Ykz (Yhw hf).1]; exact ⟨rfl, rfl⟩
theorem Y14q (h0 : ¬¬p.kind = 0) (h : (gI B Ls p f).isSome = false) : [] = (smO p o (gI B Ls p f)).map Yd0 /\ false = (gI B Ls p f).isSome := by
 have h0 := Decidable.not_not.1 h0
 cases e : gI B Ls p f with
 | none => rw [Ykz h0]; exact ⟨rfl, rfl⟩
 | some c => rw [e] at h; cases h
theorem Y18u (hf : fI p f = true) (h : (!(alM (gI B Ls) (List.take (aT p) p.items) (List.take (aT p) f.items)).isSome) = false) (hq : qI B Ls p f (mI2 p f) = true) :
  (alO (alO o (alM (gI B Ls) (List.take (aT p) p.items) (List.take (aT p) f.items)) ++ rp (nI Ls (xI p)) (rI B Ls p f (mI2 p f))) (alM (gI B Ls) (List.drop (aT p + 2) p.items) (List.drop (aT p + mI2 p f) f.items))).map Yd0 = (smO p o (gI B Ls p f)).map Yd0 /\
  (alM (gI B Ls) (List.drop (aT p + 2) p.items) (List.drop (aT p + mI2 p f) f.items)).isSome = (gI B Ls p f).isSome := by
 have h1 := @Y1gt B Ls p f o hf (Y16t h) hq
 rw [h1.2]; exact ⟨rfl, h1.1.symm⟩
theorem Y1dl (hl : Ls.all Yfo = true) (hg : good Ls p) (hf : fI p f = true) : ((vrI Ls (xI p) 1 []).getD []).map Yd0 = (rp (nI Ls (xI p)) (rI B Ls p f 0)).map Yd0 := by
 rw [Y1la hl hg hf]
 have e : rI B Ls p f 0 = [] := rfl
 rw [e, Y1bk]; rfl
theorem Y1d8 (hf : fI p f = true) : (List.take (aT p) p.items).length = aT p := Y15b hf
theorem Y1j2 (hf : fI p f = true) : ((f.items.length : Int) - (aT p : Nat) - ((List.drop (aT p + 2) p.items).length : Nat)) = (mI2 p f : Nat) := by
 have := Ym9 hf
 rw [List.length_drop]; omega
theorem Y1ge (a b : Nat) : ((a : Int) + (b : Int)).toNat = a + b := by omega
theorem Y1ig (f : YS) (n : Nat) : sumBy wY (List.take n f.items) <= wY f /\ sumBy wY (List.drop n f.items) <= wY f := by
 have h1 := Yg2 wY f.items n
 have h2 := Yq7 wY f.items n
 have h3 := Yfq f
 omega
theorem Y1kh (h1 : ¬p.kind = 1) (h0 : ¬p.kind = 0) (hk : f.kind = p.kind) (hn : f.number = p.number) : decide (f.text.data.toList = p.text.data.toList) = (gI B Ls p f).isSome := by
 rw [(Yzx (o := []) h1 h0).1]
 have : (f.text = p.text) ↔ f.text.data.toList = p.text.data.toList := by rw [Y15l]; exact eq_comm
 simp [hk, hn, this]
end
end Go.Proofs.YtclpofblehlojaaGreat
end
section
namespace Go.Proofs.YtclpofblehlojaaGreat
open Go Ab
set_option maxHeartbeats 4000000
abbrev Z5w (B : List YB) (Ls : List YS) (p : YS) (f : YS) (o : List YC) : Ct := ⟨100, [.arr true 12 (o.map Yd0)], [ll (B.map Yd1), ll (Ls.map Ycz), ll (p.items.map Ycz), Ydl f, .one (.ref 0)], [.dead, .arr true 12 ((smO p o (gS B Ls p f)).map Yd0)], .tup [.one (.ref 1), lb (gS B Ls p f).isSome]⟩
abbrev Zc (B : List YB) (Ls : List YS) (p : YS) (f : YS) (o : List YC) : Ct := ⟨38, [.arr true 12 (o.map Yd0)], [ll (B.map Yd1), ll (Ls.map Ycz), Ydl p, Ydl f, .one (.ref 0)], [.dead, .arr true 12 ((smO p o (gS B Ls p f)).map Yd0)], .tup [.one (.ref 1), lb (gS B Ls p f).isSome]⟩
def Z3m (B : List YB) (Ls : List YS) (p : YS) (f : YS) (o : List YC) (k : Nat) (k1 : Nat) : Lp Nat := .mk 174 1 (fun x => [(0, ll (List.map Yd1
 B)), (1, ll (Ls.map Ycz)), (2, ll (p.items.map Ycz)), (4, .one (.ref 1)), (8, .one (.ptr 2 0)), (12, li (if okS p.items = true then atS p.items else (-1
 : Int))), (14, li (↑(p.items.map Ycz).length : Int)), (15, li (↑(mS p f) : Int)), (16, lb (gS B Ls (p.items.getD k default) (f.items.getD (kS B Ls p f o k + k1)
 default)).isSome), (17, li ((↑(kS B Ls p f o k) : Int) + (k1 : Int) + 1)), (18, li (k : Int)), (19, .one (.ref 3)), (22, li (k1 : Int)), (23, .one (.ref 4)), (24, hs x
 0)]) (fun x => [.dead, .arr true 12 ((oS B Ls p f o k).map Yd0), .box (vals (Yda f)), ho x 1, ho x 2]) (fun k2 => [.s (li (k2 : Int)), .o (.arr true 12
 ((Yeo (nS Ls (p.items.getD k default)) (rS B Ls p f o k k1) (Yiq B Ls p f o k k1) k2).map Yd0)), .o (.arr true 12 ((List.take k2 (Yiq B Ls p f o k
 k1)).map Ylm ++ (List.drop k2 (Yiq B Ls p f o k k1)).map Yd0))]) (fun k2 => k2 <= (nS Ls (p.items.getD k default)).length /\ (nS Ls (p.items.getD k default)).length <=
 9223372036854775807 /\ ((gS B Ls (p.items.getD k default) (f.items.getD (kS B Ls p f o k + k1) default)).isSome || decide (k2 = 0)) = true /\ qS B Ls p f o k k1 = true /\ (rS B Ls p
 f o k k1).length <= 1000000000) (fun k2 => (nS Ls (p.items.getD k default)).length - k2) [.mk True (.exit 6) (fun x => [(0, ll (B.map Yd1)), (1, ll (List.map Ycz
 Ls)), (2, ll (p.items.map Ycz)), (4, .one (.ref 1)), (8, .one (.ptr 2 0)), (12, li (if okS p.items = true then atS p.items else (-1 : Int))), (14, li (↑(List.map
 Ycz p.items).length : Int)), (15, li (↑(mS p f) : Int)), (16, lb (gS B Ls (p.items.getD k default) (f.items.getD (kS B Ls p f o k + k1) default)).isSome), (17, li ((↑(kS B Ls
 p f o k) : Int) + (k1 : Int) + 1)), (18, li (k : Int)), (19, .one (.ref 3)), (22, li (k1 : Int))]) (fun x => [.dead, .arr true 12 ((oS B Ls p f o k).map Yd0),
 .box (vals (Yda f)), ho x 0]) [.o (.arr true 12 ((rp (nS Ls (p.items.getD k default)) (rS B Ls p f o k (k1 + 1))).map Yd0))]]
def Z3n (B : List YB) (Ls : List YS) (p : YS) (f : YS) (o : List YC) (k : Nat) : Lp Nat := .mk 174 1 (fun x => [(0, ll (B.map Yd1)), (1, ll
 (Ls.map Ycz)), (2, ll (p.items.map Ycz)), (4, .one (.ref 1)), (8, .one (.ptr 2 0)), (12, li (if okS p.items = true then atS p.items else (-1 : Int))),
 (14, li (↑(p.items.map Ycz).length : Int)), (15, li (↑(mS p f) : Int)), (16, hs x 2), (17, hs x 1), (18, li (k : Int)), (19, .one (.ref 3)), (22, hs x 0)]) (fun x =>
 [.dead, .arr true 12 ((oS B Ls p f o k).map Yd0), .box (vals (Yda f)), ho x 3]) (fun k1 => [.s (li (k1 : Int)), .s (li ((↑(kS B Ls p f o k) : Int) + (↑k1 :
 Int))), .s (lb (qS B Ls p f o k k1)), .o (.arr true 12 ((rp (nS Ls (p.items.getD k default)) (rS B Ls p f o k k1)).map Yd0))]) (fun k1 => k1 <= mS p f /\ kS B Ls p f o k
 + mS p f <= f.items.length /\ (qS B Ls p f o k k1 || decide (k1 = (rS B Ls p f o k k1).length + 1)) = true /\ atB p k = true /\ wY p <= 1048576 /\ sizeY p <= 2147483647 /\ Ydp p <= 40 /\
 wY f <= 1000000000) (fun k1 => mS p f - k1) [.mk True (.exit 4) (fun x => [(0, ll (B.map Yd1)), (1, ll (Ls.map Ycz)), (2, ll (p.items.map Ycz)), (4,
 .one (.ref 1)), (8, .one (.ptr 2 0)), (12, li (if okS p.items = true then atS p.items else (-1 : Int))), (14, li (↑(p.items.map Ycz).length : Int)), (15, li (↑(mS
 p f) : Int)), (16, hs x 1), (17, hs x 0), (18, li (k : Int)), (19, .one (.ref 3))]) (fun x => [.dead, .arr true 12 ((oS B Ls p f o k).map Yd0), .box (vals
 (Yda f)), ho x 2]) [.s (li ((↑(kS B Ls p f o k) : Int) + (↑(if qS B Ls p f o k (mS p f) = true then mS p f else (rS B Ls p f o k (mS p f)).length + 1) : Int))), .s (lb (qS B
 Ls p f o k (mS p f))), .o (.arr true 12 ((rp (nS Ls (p.items.getD k default)) (rS B Ls p f o k (mS p f))).map Yd0))]]
def Z3o (B : List YB) (Ls : List YS) (p : YS) (f : YS) (o : List YC) (k : Nat) : Lp Nat := .mk 174 1 (fun x => [(0, ll (B.map Yd1)), (1, ll
 (Ls.map Ycz)), (2, ll (p.items.map Ycz)), (4, .one (.ref 1)), (8, .one (.ptr 2 0)), (12, li (if okS p.items = true then atS p.items else (-1 : Int))),
 (14, li (↑(p.items.map Ycz).length : Int)), (15, li (↑(mS p f) : Int)), (16, lb (bS B Ls p f o k)), (17, li (↑(kS B Ls p f o k) : Int)), (18, li (k : Int)), (19, .one
 (.ref 3)), (102, li (↑(((vrS Ls (p.items.getD k default) 0 []).getD []).map Yd0).length : Int)), (103, hs x 0)]) (fun x => [.dead, .arr true 12 (List.map Yd0
 (oS B Ls p f o k)), .box (vals (Yda f)), ho x 1]) (fun k1 => [.s (li (k1 : Int)), .o (.arr true 12 ((Ye9 (eV Ls (p.items.getD k default)) k1).map Yd0))]) (fun
 k1 => k1 <= (eV Ls (p.items.getD k default)).length /\ (eV Ls (p.items.getD k default)).length <= 1000000000 /\ atB p k = true /\ Ydp p <= 40) (fun k1 => (eV Ls (p.items.getD k
 default)).length - k1) [.mk True (.exit 2) (fun x => [(0, ll (B.map Yd1)), (1, ll (Ls.map Ycz)), (2, ll (p.items.map Ycz)), (4, .one (.ref 1)), (8,
 .one (.ptr 2 0)), (12, li (if okS p.items = true then atS p.items else (-1 : Int))), (14, li (↑(p.items.map Ycz).length : Int)), (15, li (↑(mS p f) : Int)), (16, lb
 (bS B Ls p f o k)), (17, li (↑(kS B Ls p f o k) : Int)), (18, li (k : Int)), (19, .one (.ref 3))]) (fun x => [.dead, .arr true 12 ((oS B Ls p f o k).map Yd0),
 .box (vals (Yda f)), ho x 0]) [.o (.arr true 12 ((nS Ls (p.items.getD k default)).map Yd0))]]
def Z13 (B : List YB) (Ls : List YS) (p : YS) (f : YS) (o : List YC) : Lp Nat := .mk 174 1 (fun x => [(0, ll (B.map Yd1)), (1, ll (List.map
 Ycz Ls)), (2, ll (p.items.map Ycz)), (4, .one (.ref 1)), (8, .one (.ptr 2 0)), (12, li (if okS p.items = true then atS p.items else (-1 : Int))), (14, li
 (↑(p.items.map Ycz).length : Int)), (15, hs x 1), (16, hs x 3), (17, hs x 2), (18, hs x 0)]) (fun x => [.dead, ho x 4, .box (vals (Yda f))]) (fun k => [.s (li (↑k
 : Int)), .s (li (↑(mS p f) : Int)), .s (li (↑(kS B Ls p f o k) : Int)), .s (lb (bS B Ls p f o k)), .o (.arr true 12 ((oS B Ls p f o k).map Yd0))]) (fun k => k <=
 p.items.length /\ p.items.length <= 9223372036854775807 /\ fS p f = true) (fun k => p.items.length - k) [.mk True (.exit 0) (fun x => [(4, .one (.ref 1)), (16, hs x 0)]) (fun x
 => [.dead, ho x 1]) [.s (lb (bS B Ls p f o p.items.length)), .o (.arr true 12 ((oS B Ls p f o p.items.length).map Yd0))]]
theorem Zai (B : List YB) (Ls : List YS) (p : YS) (f : YS) (o : List YC) (h : B.length <= 1048577 /\ sumBy wB B <= 1048577 /\ wY p <= 1048576 /\ wY f <=
 1000000000 /\ o.length + sizeY p <= 2147483647 /\ Ydp p <= 40) (hg : good Ls p /\ p.kind = 0) (ih : ∀ (z : YS), z ∈ p.items -> ∀ (B : List YB) (Ls : List YS) (f : YS)
 (o : List YC), B.length <= 1048577 /\ sumBy wB B <= 1048577 /\ wY z <= 1048576 /\ wY f <= 1000000000 /\ o.length + sizeY z <= 2147483647 /\ Ydp z <= 40 -> good Ls z -> OK (Zc B Ls
 z f o)) (k : Nat) (k1 : Nat) : Lp.Sem Tryz.prog (Ydg Tryz.f100 3) (Z3m B Ls p f o k k1) := Ydr (fun k2 => let v9 := (Yeo (nS Ls (p.items.getD k default)) (rS B Ls p f
 o k k1) (Yiq B Ls p f o k k1) k2); let v1 := (v9.getD (k2 : Int).toNat default); let v2 := [cI 0, cI 0, cS (ByteArray.mk #[]), .list [], .list [], cI 0, cI 0, cI 0, cS
 (ByteArray.mk #[]), .list [], .list [], .list []]; let v3 := (v9.map Yd0); let v4 := ((Yiq B Ls p f o k k1).getD k2 default); let v5 := (List.map Ylm
 (List.take k2 (Yiq B Ls p f o k k1)) ++ (List.drop k2 (Yiq B Ls p f o k k1)).map Yd0); let v6 := [(k2 : Int).toNat, (k2 : Int).toNat, (k2 : Int).toNat, (↑k2 :
 Int).toNat, (k2 : Int).toNat]; let v7 := [cI v1.name.kind, cI v1.name.number, cS v1.name.text, .list (v1.name.scopes.map Yd2), .list (List.map Ycz
 v1.name.items), cI v1.depth, cI v1.form.kind, cI v1.form.number, cS v1.form.text, .list (v1.form.scopes.map Yd2), .list (v1.form.items.map Ycz), .any];
 let v11 := (v1.each.map Yd0 ++ [v2]); let v10 := (↑(v1.each.map Yd0).length : Int); let v8 := [cI v1.name.kind, cI v1.name.number, cS v1.name.text, .list
 (v1.name.scopes.map Yd2), .list (v1.name.items.map Ycz), cI v1.depth, cI v1.form.kind, cI v1.form.number, cS v1.form.text, .list (List.map Yd2
 v1.form.scopes), .list (v1.form.items.map Ycz), .list (v11.set v10.toNat (Ydj v4))]; .z Yd0 v9 (.i ((k2 : Int) < (↑(v9.map Yd0).length :
 Int)) (.b (gS B Ls (p.items.getD k default) (f.items.getD (kS B Ls p f o k + k1) default)).isSome (.w (.drawT 13 16 12 [(11, [3, 9]), (13, [4, 11]), (16, [11, 3])]) (.p (0 <= (↑k2
 : Int) /\ (k2 : Int).toNat < v3.length) (.w .sub (.p ((k2 : Int).toNat < v3.length) (.p (0 <= (k2 : Int) /\ (k2 : Int).toNat < v5.length) (.w (.subs (Ydj v4)) (.p (v5[(↑k2 :
 Int).toNat]? = some (Ydj v4)) (.w (.cells (Ydj v1)) (.p (v3[(k2 : Int).toNat]? = some (Ydj v1)) (.w (.subcall (Ydj v1) (v1.each.map Yd0) 12) (.p
 (v3[(k2 : Int).toNat]? = some (Ydj v1)) (.p (some (Cell.list (v1.each.map Yd0)) = some (Cell.list (v1.each.map Yd0))) (.p (∀ (x : List Cell), x ∈
 v1.each.map Yd0 -> x.length = 12) (.p (((v1.each.map Yd0).length + 1) * 192 <= 140737488355328) (.p (0 <= v10 /\ v10.toNat < v11.length) (.w (.subs (Ydj v4))
 (.w (.cells v2) (.p (v6 = v6) (.p (v5[(k2 : Int).toNat]? = some (Ydj v4)) (.p (v11[v10.toNat]? = some v2) (.p (0 <= (k2 : Int) /\ (k2 : Int).toNat < (v3.set (↑k2 :
 Int).toNat v7).length) (.w (.take v7 (v3.set (k2 : Int).toNat v8) 0) (.p ((v3.set (k2 : Int).toNat v7)[(k2 : Int).toNat]? = some v7) (.p ((v3.set (k2 : Int).toNat v7).set (↑k2
 : Int).toNat v8 = v3.set (k2 : Int).toNat v8) (.p (v10.toNat < v11.length) (.p ((k2 : Int).toNat < (v3.set (k2 : Int).toNat v7).length) (.z Yd0 v1.each (.r ((k2 : Int) +
 1) (.g [0, 1, 2, 3, 4] (k2 + 1) [.s (li ((k2 : Int) + 1)), .o (.arr true 12 (v3.set (k2 : Int).toNat v8)), .o (.arr true 12 (v5.set (k2 : Int).toNat [cI v4.name.kind, cI
 v4.name.number, cS v4.name.text, .any, .any, cI v4.depth, cI v4.form.kind, cI v4.form.number, cS v4.form.text, .any, .any,
 .any]))]))))))))))))))))))))))))))))) (.o 0 [0, 1, 2, 3] [.o (.arr true 12 v3)])) (.y false (.o 0 [0, 1, 2, 3] [.o (.arr true 12 v3)])))) (by
 intro k2 h; try dsimp only [Yd3, Ydb, Z3m] at h ⊢
 have g3 := Y11l (nS Ls (p.items.getD k default)) (rS B Ls p f o k k1) (Yiq B Ls p f o k k1) k2
 have gc := @Y1cn B Ls p f o k k1
 have ge := @Y18z B Ls p f o k k1 k2
 have gz := @Y18x B Ls p f o k k1 k2
 with_reducible repeat' (first | apply And.intro | exact zR | (intro))
 all_goals ((try simp only [std, inj] at *); with_reducible and_intros)
 all_goals try first | exact z | exact List.set_set .. | exact Y10z (by grind) | exact Yzc (by grind) | exact Y158 (by grind) | exact Yxt _ (by omega) | exact gz h.2.2.2.1 h.2.2.1 (.inl ‹_›) | exact gz h.2.2.2.1 h.2.2.1 (.inr (by omega)) | grind)
theorem Zaj (B : List YB) (Ls : List YS) (p : YS) (f : YS) (o : List YC) (h : B.length <= 1048577 /\ sumBy wB B <= 1048577 /\ wY p <= 1048576 /\ wY f <=
 1000000000 /\ o.length + sizeY p <= 2147483647 /\ Ydp p <= 40) (hg : good Ls p /\ p.kind = 0) (ih : ∀ (z : YS), z ∈ p.items -> ∀ (B : List YB) (Ls : List YS) (f : YS)
 (o : List YC), B.length <= 1048577 /\ sumBy wB B <= 1048577 /\ wY z <= 1048576 /\ wY f <= 1000000000 /\ o.length + sizeY z <= 2147483647 /\ Ydp z <= 40 -> good Ls z -> OK (Zc B Ls
 z f o)) (k : Nat) : Lp.Sem Tryz.prog (Ydg Tryz.f100 2) (Z3n B Ls p f o k) := Ydr (fun k1 => .i ((k1 : Int) < (↑(mS p f) : Int)) (.b (qS B Ls p f o k k1) (.w (.bool
 false) (.w (.draw [(12, [4])]) (.x (k : Int) (p.items.map Ycz) (Yda (p.items.getD k default)) (.x ((↑(kS B Ls p f o k) : Int) + (k1 : Int)) (List.map Ycz
 f.items) (Yda (f.items.getD (kS B Ls p f o k + k1) default)) (.d [.rd, .rd, .rd, .rd, .own true 12] (Zc B Ls (p.items.getD k default) (f.items.getD (kS B Ls p f o k +
 k1) default) []) (.r ((↑(kS B Ls p f o k) : Int) + (k1 : Int) + 1) (.l (Z3m B Ls p f o k k1) (Zai B Ls p f o h hg ih k k1) [0, 1, 2, 3, 12] [.s (li 0), .o (.arr
 true 12 ((rp (nS Ls (p.items.getD k default)) (rS B Ls p f o k k1)).map Yd0)), .o (.arr true 12 ((smO (p.items.getD k default) [] (gS B Ls
 (p.items.getD k default) (f.items.getD (kS B Ls p f o k + k1) default))).map Yd0))] 0 (.t (.r ((k1 : Int) + 1) (.g [0, 1, 2, 3] (k1 + 1) [.s (li ((k1 : Int) + 1)), .s (li ((↑(kS B Ls p
 f o k) : Int) + (k1 : Int) + 1)), .s (lb (gS B Ls (p.items.getD k default) (f.items.getD (kS B Ls p f o k + k1) default)).isSome), .o (.arr true 12 ((rp (nS
 Ls (p.items.getD k default)) (rS B Ls p f o k (k1 + 1))).map Yd0))])) .q)))))))) (.o 0 [0, 1, 2, 3] [.s (li ((↑(kS B Ls p f o k) : Int) + (k1 : Int))), .s (lb (qS B Ls p f o k k1)), .o
 (.arr true 12 ((rp (nS Ls (p.items.getD k default)) (rS B Ls p f o k k1)).map Yd0))])) (.y false (.o 0 [0, 1, 2, 3] [.s (li ((↑(kS B Ls p f o k) : Int) + (↑k1 :
 Int))), .s (lb (qS B Ls p f o k k1)), .o (.arr true 12 ((rp (nS Ls (p.items.getD k default)) (rS B Ls p f o k k1)).map Yd0))]))) (by
 intro k1 h; try dsimp only [Yd3, Ydb, Z3n, Z3m] at h ⊢
 have ga := Yob h.2.2.2.1
 have gi := Yl0 ga.1
 have gl := Y174 f
 have gf := @Yl0 (kS B Ls p f o k + k1) f
 have g3 := @Y18f B Ls p f o k k1
 have g4 := @Y1h6 B Ls p f o k k1
 have g5 := Y14v (Ls := Ls) (p.items.getD k default)
 have g6 := Yu7 (p.items.getD k default)
 have g7 := @Yre (nS Ls (p.items.getD k default)) (rS B Ls p f o k k1) (Yiq B Ls p f o k k1)
 have gr := @Y1e9 Ls p k hg.1 hg.2
 with_reducible repeat' (first | apply And.intro | exact zR | exact ih | (intro))
 all_goals (try simp only [std, inj, Y10u, Yv5] at *)
 all_goals with_reducible and_intros
 all_goals try first | with_reducible apply ih
 all_goals try first | exact zw | exact gi.2.2.2.2 | exact gr h.2.2.2.1 | exact Y1dr | exact Y1hx ‹_› | exact Y1mc ‹_› | (have q := gf (by omega); omega) | (have q := g3 ‹_›; omega) | (simp only [List.length_nil]; omega) | grind)
theorem Zak (B : List YB) (Ls : List YS) (p : YS) (f : YS) (o : List YC) (h : B.length <= 1048577 /\ sumBy wB B <= 1048577 /\ wY p <= 1048576 /\ wY f <=
 1000000000 /\ o.length + sizeY p <= 2147483647 /\ Ydp p <= 40) (hg : good Ls p /\ p.kind = 0) (ih : ∀ (z : YS), z ∈ p.items -> ∀ (B : List YB) (Ls : List YS) (f : YS)
 (o : List YC), B.length <= 1048577 /\ sumBy wB B <= 1048577 /\ wY z <= 1048576 /\ wY f <= 1000000000 /\ o.length + sizeY z <= 2147483647 /\ Ydp z <= 40 -> good Ls z -> OK (Zc B Ls
 z f o)) (k : Nat) : Lp.Sem Tryz.prog (Ydg Tryz.f100 1) (Z3o B Ls p f o k) := Ydr (fun k1 => .i ((k1 : Int) < (↑(((vrS Ls (p.items.getD k default) 0
 []).getD []).map Yd0).length : Int)) (.p (0 <= (k1 : Int) /\ (k1 : Int).toNat < ((Ye9 (eV Ls (p.items.getD k default)) k1).map Yd0).length) (.w (.cells (Ydj ((Ye9 (eV Ls
 (p.items.getD k default)) k1).getD (k1 : Int).toNat default))) (.p (((Ye9 (eV Ls (p.items.getD k default)) k1).map Yd0)[(k1 : Int).toNat]? = some (Ydj ((Ye9 (eV
 Ls (p.items.getD k default)) k1).getD (k1 : Int).toNat default))) (.r (((Ye9 (eV Ls (p.items.getD k default)) k1).getD (k1 : Int).toNat default).depth + 1) (.p (0 <= (k1 : Int)
 /\ (k1 : Int).toNat < ((Ye9 (eV Ls (p.items.getD k default)) k1).map Yd0).length) (.w (.cells (Ydj ((Ye9 (eV Ls (p.items.getD k default)) k1).getD (↑k1 :
 Int).toNat default))) (.p (((Ye9 (eV Ls (p.items.getD k default)) k1).map Yd0)[(k1 : Int).toNat]? = some (Ydj ((Ye9 (eV Ls (p.items.getD k default)) k1).getD
 (k1 : Int).toNat default))) (.r ((k1 : Int) + 1) (.g [0, 1, 2, 3] (k1 + 1) [.s (li ((k1 : Int) + 1)), .o (.arr true 12 (((Ye9 (eV Ls (p.items.getD k
 default)) k1).map Yd0).set (k1 : Int).toNat [cI ((Ye9 (eV Ls (p.items.getD k default)) k1).getD (k1 : Int).toNat default).name.kind, cI ((Ye9 (eV Ls (p.items.getD k default)) k1).getD
 (k1 : Int).toNat default).name.number, cS ((Ye9 (eV Ls (p.items.getD k default)) k1).getD (k1 : Int).toNat default).name.text, .list (((Ye9 (eV Ls
 (p.items.getD k default)) k1).getD (k1 : Int).toNat default).name.scopes.map Yd2), .list (((Ye9 (eV Ls (p.items.getD k default)) k1).getD (k1 : Int).toNat
 default).name.items.map Ycz), cI (((Ye9 (eV Ls (p.items.getD k default)) k1).getD (k1 : Int).toNat default).depth + 1), cI ((Ye9 (eV Ls (p.items.getD k default)) k1).getD (↑k1 :
 Int).toNat default).form.kind, cI ((Ye9 (eV Ls (p.items.getD k default)) k1).getD (k1 : Int).toNat default).form.number, cS ((Ye9 (eV Ls (p.items.getD k default)) k1).getD (↑k1
 : Int).toNat default).form.text, .list (((Ye9 (eV Ls (p.items.getD k default)) k1).getD (k1 : Int).toNat default).form.scopes.map Yd2), .list (List.map Ycz
 ((Ye9 (eV Ls (p.items.getD k default)) k1).getD (k1 : Int).toNat default).form.items), .list (((Ye9 (eV Ls (p.items.getD k default)) k1).getD (↑k1 :
 Int).toNat default).each.map Yd0)]))]))))))))) (.o 0 [0, 1, 2, 3] [.o (.arr true 12 ((Ye9 (eV Ls (p.items.getD k default)) k1).map Yd0))])) (by
 intro k1 h; try dsimp only [Yd3, Ydb, Z3o] at h ⊢
 have g3 := Y1cf (eV Ls (p.items.getD k default)) k1
 have gd := @Y1d0 Ls p k k1 hg.1 hg.2
 have ge := @Y1je Ls p k k1 hg.1 hg.2
 with_reducible repeat' (first | apply And.intro | exact zR | (intro))
 all_goals (try simp only [std, inj, Y10u, Yv5] at *)
 all_goals with_reducible and_intros
 all_goals try first | exact zw | exact Y1f2 (by omega) | (have q := gd h.2.2.1 h.2.2.2 (by omega); omega) | exact ge h.2.2.1 (by omega) | grind)
theorem Z3p (B : List YB) (Ls : List YS) (p : YS) (f : YS) (o : List YC) (h : B.length <= 1048577 /\ sumBy wB B <= 1048577 /\ wY p <= 1048576 /\ wY f <=
 1000000000 /\ o.length + sizeY p <= 2147483647 /\ Ydp p <= 40) (hg : good Ls p /\ p.kind = 0) (ih : ∀ (z : YS), z ∈ p.items -> ∀ (B : List YB) (Ls : List YS) (f : YS)
 (o : List YC), B.length <= 1048577 /\ sumBy wB B <= 1048577 /\ wY z <= 1048576 /\ wY f <= 1000000000 /\ o.length + sizeY z <= 2147483647 /\ Ydp z <= 40 -> good Ls z -> OK (Zc B Ls
 z f o)) : Lp.Sem Tryz.prog (Ydg Tryz.f100 0) (Z13 B Ls p f o) := Ydr (fun k => .i ((k : Int) < (↑(p.items.map Ycz).length : Int)) (.b (bS B Ls p f o k) (.i
 ((k : Int) = if okS p.items = true then atS p.items else (-1 : Int)) (.r ((k : Int) + 1) (.g [0, 1, 2] (k + 1) [.s (li ((k : Int) + 1)), .s (li (↑(mS p f) : Int)), .s (li (↑(kS
 B Ls p f o k) : Int)), .s (lb (bS B Ls p f o k)), .o (.arr true 12 ((oS B Ls p f o k).map Yd0))])) (.r ((k : Int) + 1) (.i ((k : Int) + (1 : Int) ≠ if okS p.items =
 true then atS p.items else (-1 : Int)) (.w (.draw [(12, [1])]) (.x (k : Int) (p.items.map Ycz) (Yda (p.items.getD k default)) (.x (↑(kS B Ls p f o k) : Int)
 (f.items.map Ycz) (Yda (f.items.getD (kS B Ls p f o k) default)) (.d [.rd, .rd, .rd, .rd, .own true 12] (Zc B Ls (p.items.getD k default) (f.items.getD (kS B Ls
 p f o k) default) (oS B Ls p f o k)) (.r ((↑(kS B Ls p f o k) : Int) + 1) (.r ((k : Int) + 1) (.g [0, 10, 2] (k + 1) [.s (li ((k : Int) + 1)), .s (li (↑(mS p f) : Int)), .s (li
 ((↑(kS B Ls p f o k) : Int) + 1)), .s (lb (gS B Ls (p.items.getD k default) (f.items.getD (kS B Ls p f o k) default)).isSome), .o (.arr true 12 ((smO
 (p.items.getD k default) (oS B Ls p f o k) (gS B Ls (p.items.getD k default) (f.items.getD (kS B Ls p f o k) default))).map Yd0))]))))))) (.x (k : Int) (p.items.map Ycz)
 (Yda (p.items.getD k default)) (.w (.bool false) (.d [.rd, .rd, .rd, .own true 12] (Zi Ls (p.items.getD k default) 0 []) (.z Yd0 ((vrS Ls (p.items.getD k default)
 0 []).getD []) (.l (Z3o B Ls p f o k) (Zak B Ls p f o h hg ih k) [0, 1, 2, 5] [.s (li 0), .o (.arr true 12 (((vrS Ls (p.items.getD k default) 0
 []).getD []).map Yd0))] 0 (.t (.l (Z3n B Ls p f o k) (Zaj B Ls p f o h hg ih k) [0, 1, 2, 3] [.s (li 0), .s (li (↑(kS B Ls p f o k) : Int)), .s (lb (bS B Ls p f o k)), .o
 (.arr true 12 ((nS Ls (p.items.getD k default)).map Yd0))] 0 (.t (.p ((((oS B Ls p f o k).map Yd0).length + ((rp (nS Ls (p.items.getD k
 default)) (rS B Ls p f o k (mS p f))).map Yd0).length) * 192 <= 140737488355328) (.r ((k : Int) + 1) (.g [0, 4, 2] (k + 1) [.s (li ((k : Int) + 1)), .s (li (↑(mS p f) : Int)), .s (li
 ((↑(kS B Ls p f o k) : Int) + (↑(if qS B Ls p f o k (mS p f) = true then mS p f else (rS B Ls p f o k (mS p f)).length + 1) : Int))), .s (lb (qS B Ls p f o k (mS p f))), .o
 (.arr true 12 ((oS B Ls p f o k).map Yd0 ++ (rp (nS Ls (p.items.getD k default)) (rS B Ls p f o k (mS p f))).map Yd0))]))) .q)) .q))))))))) (.o 0 [0, 1] [.s
 (lb (bS B Ls p f o k)), .o (.arr true 12 ((oS B Ls p f o k).map Yd0))])) (.y false (.o 0 [0, 1] [.s (lb (bS B Ls p f o k)), .o (.arr true 12 ((oS B
 Ls p f o k).map Yd0))]))) (by
 intro k h; try dsimp only [Yd3, Ydb, Z13, Z3n, Z3o] at h ⊢
 rename_i hh
 have gs := @Y1f6 B Ls p f o k
 have g1 := @Y1j1 B Ls p f o k
 have gr := @Y1ik B Ls p f o k
 have gst := @Y1g2 B Ls p f o k p.items.length
 have gat := fun a => @Y1ko B Ls p f o h.2.2 k a
 have gi := @Yl0 k p
 have gf := @Yl0 (kS B Ls p f o k) f
 have gl := Y174 f
 have gg := @Yhp Ls p hg.1 hg.2 k
 have gn := Y14v (Ls := Ls) (p.items.getD k default)
 have g11 := Y1bk (nS Ls (p.items.getD k default))
 have g12 := Y19j (eV Ls (p.items.getD k default))
 have g13 := @Y1gy B Ls p f o k
 have ge := @Y1fc Ls p k hg.1 hg.2
 have ga := @Y1jl p k
 have gc := Yh3 (nS Ls (p.items.getD k default)) (rS B Ls p f o k (mS p f))
 have gz := Yu7 p
 with_reducible repeat' (first | apply And.intro | exact zR | exact ih | (intro) | apply Z78)
 all_goals (try simp only [std, inj, Y10u, Yv5, ne_eq, Decidable.not_not] at *)
 all_goals with_reducible and_intros
 all_goals try first | with_reducible apply ih
 all_goals try first | exact zw | exact (gi (by omega)).2.2.2.2 | (have q := gi (by omega); omega) | (have q := gat (by omega) ‹_›; have q2 := gi (by omega); omega) | (have q := gat (by omega) ‹_›; have q2 := gf (by omega); omega) | grind)
theorem Z7d (B : List YB) (Ls : List YS) (p f : YS) (o : List YC) (h : B.length <= 1048577 /\ sumBy wB B <= 1048577 /\ wY p <= 1048576 /\ wY f <= 1000000000 /\
 o.length + sizeY p <= 2147483647 /\ Ydp p <= 40) (hg : good Ls p /\ p.kind = 0) (ih : ∀ z ∈ p.items, ∀ (B : List YB) (Ls : List YS) (f : YS) (o : List YC) (h :
 B.length <= 1048577 /\ sumBy wB B <= 1048577 /\ wY z <= 1048576 /\ wY f <= 1000000000 /\ o.length + sizeY z <= 2147483647 /\ Ydp z <= 40) (hg : good Ls z), Zc B Ls z f o)  : Z5w
 B Ls p f o := Yde Tryz.call100 Tryz.func100 (.c [.rd] (Zcc p.items) (.z Ycz p.items (.i (0 <= if okS p.items = true then atS p.items else (-1 : Int)) (.z Ycz f.items (.r
 ((↑(p.items.map Ycz).length : Int) - 2) (.r ((↑(f.items.map Ycz).length : Int) - ((↑(p.items.map Ycz).length : Int) - 2)) (.i (f.kind ≠ 0) (.y true (.y
 true (.w (.ghost (.nilreg 10 true 12)) (.w (.ghost (.move 0)) (.f [2] [.dead, .arr true 12 []] (.tup [.one (.ref 1), lb false])))))) (.i ((↑(List.map Ycz
 f.items).length : Int) - ((↑(p.items.map Ycz).length : Int) - 2) < 0) (.y true (.w (.ghost (.nilreg 10 true 12)) (.w (.ghost (.move 0)) (.f [2] [.dead, .arr true 12
 []] (.tup [.one (.ref 1), lb false]))))) (.i ((if okS p.items = true then atS p.items else (-1 : Int)) < 0) (.z Ycz f.items (.i ((↑(f.items.map Ycz).length :
 Int) ≠ (↑(p.items.map Ycz).length : Int)) (.w (.ghost (.nilreg 10 true 12)) (.w (.ghost (.move 0)) (.f [2] [.dead, .arr true 12 []] (.tup [.one (.ref 1), lb
 false])))) (.w (.ghost (.move 0)) (.l (Z13 B Ls p f o) (Z3p B Ls p f o h hg ih) [0, 2, 1] [.s (li 0), .s (li ((↑(f.items.map Ycz).length : Int) -
 ((↑(p.items.map Ycz).length : Int) - 2))), .s (li 0), .s (lb true), .o (.arr true 12 (o.map Yd0))] 0 (.t (.b (!bS B Ls p f o p.items.length) (.w (.ghost
 (.nilreg 10 true 12)) (.f [2] [.dead, .arr true 12 []] (.tup [.one (.ref 1), lb false]))) (.f [1] [.dead, .arr true 12 ((oS B Ls p f o
 p.items.length).map Yd0)] (.tup [.one (.ref 1), lb true]))) .q))))) (.y false (.w (.ghost (.move 0)) (.l (Z13 B Ls p f o) (Z3p B Ls p f o h hg ih) [0, 2, 1] [.s (li
 0), .s (li ((↑(f.items.map Ycz).length : Int) - ((↑(p.items.map Ycz).length : Int) - 2))), .s (li 0), .s (lb true), .o (.arr true 12 (o.map Yd0))] 0
 (.t (.b (!bS B Ls p f o p.items.length) (.w (.ghost (.nilreg 10 true 12)) (.f [2] [.dead, .arr true 12 []] (.tup [.one (.ref 1), lb false]))) (.f [1] [.dead, .arr
 true 12 ((oS B Ls p f o p.items.length).map Yd0)] (.tup [.one (.ref 1), lb true]))) .q)))))))))) (.i (f.kind ≠ 0) (.y true (.y true (.w (.ghost (.nilreg 10 true
 12)) (.w (.ghost (.move 0)) (.f [2] [.dead, .arr true 12 []] (.tup [.one (.ref 1), lb false])))))) (.y false (.i ((if okS p.items = true then atS p.items else (-1 :
 Int)) < 0) (.z Ycz f.items (.i ((↑(f.items.map Ycz).length : Int) ≠ (↑(p.items.map Ycz).length : Int)) (.w (.ghost (.nilreg 10 true 12)) (.w (.ghost (.move
 0)) (.f [2] [.dead, .arr true 12 []] (.tup [.one (.ref 1), lb false])))) (.w (.ghost (.move 0)) (.l (Z13 B Ls p f o) (Z3p B Ls p f o h hg ih) [0, 2, 1] [.s
 (li 0), .s (li 0), .s (li 0), .s (lb true), .o (.arr true 12 (o.map Yd0))] 0 (.t (.b (!bS B Ls p f o p.items.length) (.w (.ghost (.nilreg 10 true 12)) (.f [2]
 [.dead, .arr true 12 []] (.tup [.one (.ref 1), lb false]))) (.f [1] [.dead, .arr true 12 ((oS B Ls p f o p.items.length).map Yd0)] (.tup [.one (.ref
 1), lb true]))) .q))))) (.y false (.w (.ghost (.move 0)) (.l (Z13 B Ls p f o) (Z3p B Ls p f o h hg ih) [0, 2, 1] [.s (li 0), .s (li 0), .s (li 0), .s (lb true), .o
 (.arr true 12 (o.map Yd0))] 0 (.t (.b (!bS B Ls p f o p.items.length) (.w (.ghost (.nilreg 10 true 12)) (.f [2] [.dead, .arr true 12 []] (.tup [.one (.ref
 1), lb false]))) (.f [1] [.dead, .arr true 12 ((oS B Ls p f o p.items.length).map Yd0)] (.tup [.one (.ref 1), lb true]))) .q)))))))))) (by
 dsimp only [Yd3, Z5w, Ydb, Z13]
 have g1 := @Y1h2 B Ls p f o
 have g2 := @Y1lk p f
 have g3 := @Y1ks p f
 have g4 := @Y1lx p f
 have g5 := @Y1m9 p f
 have g6 := @Y1kb B Ls p f o hg.2
 have g7 := @Y1kg B Ls p f o hg.2
 have g8 := @Y1l7 B Ls p f o hg.2
 have g9 := @Y1kv B Ls p f o hg.2
 have g10 := @Y1ll B Ls p f o hg.2
 have g11 := Yfq f
 with_reducible repeat' (first | apply And.intro | exact zR | (intro))
 all_goals (try simp only [std, inj, Yv5, Decidable.not_not] at *)
 all_goals with_reducible and_intros
 all_goals try first | exact zw | grind)
theorem Zc8 (B : List YB) (Ls : List YS) (p f : YS) (o : List YC) (h : B.length <= 1048577 /\ sumBy wB B <= 1048577 /\ wY p <= 1048576 /\ wY f <= 1000000000 /\
 o.length + sizeY p <= 2147483647 /\ Ydp p <= 40) (hg : good Ls p) (ih : ∀ z ∈ p.items, ∀ (B : List YB) (Ls : List YS) (f : YS) (o : List YC) (h : B.length <=
 1048577 /\ sumBy wB B <= 1048577 /\ wY z <= 1048576 /\ wY f <= 1000000000 /\ o.length + sizeY z <= 2147483647 /\ Ydp z <= 40) (hg : good Ls z), Zc B Ls z f o)  : Zc B Ls p f o
 := Yde Tryz.call38 Tryz.func38 (.i (p.kind = 1) (.i (p.text.data.toList = [(95 : UInt8)]) (.w (.ghost (.move 0)) (.f [3] [.dead, .arr true 12 (o.map Yd0)] (.tup
 [.one (.ref 1), lb true]))) (.c [.rd, .rd] (Z3r Ls p) (.b (Ydo Ls p) (.i (f.kind = 1) (.d [.rd, .rd, .rd] (Z5u B p f) (.w (.ghost (.move 0)) (.f [3] [.dead,
 .arr true 12 (o.map Yd0)] (.tup [.one (.ref 1), lb (mng B p f)])))) (.w (.ghost (.move 0)) (.f [3] [.dead, .arr true 12 (o.map Yd0)] (.tup
 [.one (.ref 1), lb false])))) (.w (.draw [(6, [5, 6, 15, 16]), (7, [0, 23])]) (.d [.rd] (Z1q p) (.d [.rd] (Z1q f) (.p (((o.map Yd0).length + 1) * 192 <=
 140737488355328) (.f [24] [.dead, .arr true 12 (o.map Yd0 ++ [[cI p.kind, cI p.number, cS p.text, .list (p.scopes.map Yd2), .list (List.map Ycz
 p.items), cI 0, cI f.kind, cI f.number, cS f.text, .list (f.scopes.map Yd2), .list (f.items.map Ycz), .list []]])] (.tup [.one (.ref 1), lb
 true]))))))))) (.i (p.kind = 0) (.d [.rd, .rd, .rd, .rd, .own true 12] (Z5w B Ls p f o) (.f [4] [.dead, .arr true 12 ((smO p o (gS B Ls p f)).map Yd0)] (.tup
 [.one (.ref 1), lb (gS B Ls p f).isSome]))) (.w (.draw []) (.i (p.kind = f.kind) (.i (p.number = f.number) (.w (.ghost (.move 0)) (.f [3] [.dead, .arr true 12 (List.map
 Yd0 o)] (.tup [.one (.ref 1), lb (decide (p.text.data.toList = f.text.data.toList))]))) (.w (.ghost (.move 0)) (.f [3] [.dead, .arr true 12 (o.map Yd0)]
 (.tup [.one (.ref 1), lb false])))) (.y false (.w (.ghost (.move 0)) (.f [3] [.dead, .arr true 12 (o.map Yd0)] (.tup [.one (.ref 1), lb false]))))))))
 (by
 dsimp only [Yd3, Zc]
 have g1 := @Y19t B Ls p f o
 have g2 := @Y1fm B Ls p f o
 have g3 := @Y121 B Ls p f o
 have g4 := @Yp7 B Ls p f o
 have g5 := Yyd o p f
 have g6 : Ye3 p = decide (p.text.data.toList = [95]) := rfl
 have g7 : p.kind = 1 -> Ye3 p = true -> (gS B Ls p f).isSome = true := fun a b => by rw [(g2 a b).1]; rfl
 with_reducible repeat' (first | apply And.intro | exact zR | exact ih | (intro) | apply mIc | apply mOc | apply mSc | apply mLc | apply Z3r | apply Z7c | apply Zb | apply Z7d)
 all_goals ((try simp only [std, inj] at *); with_reducible and_intros)
 all_goals try first | with_reducible (first | apply Z3r | apply Z7c | apply Zb | apply Z7d | apply ih) | (simp only [<- List.map_append]; with_reducible first | apply Z3r | apply Z7c | apply Zb | apply Z7d | apply ih)
 all_goals try first | exact zw | exact zM | grind [Yd7, Yd8, Yd4]
 all_goals (first | exact Y1gk ‹_› ‹_› ‹_› ‹_› | exact Y1gb ‹_› ‹_› ‹_› ‹_› | exact Y1hv ‹_› ‹_› ‹_› | exact Y1lt ‹_› ‹_› ‹_› ‹_› | exact Y1lf ‹_› ‹_› ‹_› ‹_› | exact Y1ke ‹_› ‹_› ‹_›))
theorem Zbp (p : YS) : ∀ (B : List YB) (Ls : List YS) (f : YS) (o : List YC) (h : B.length <= 1048577 /\ sumBy wB B <= 1048577 /\ wY p <= 1048576 /\ wY f <= 1000000000 /\ o.length + sizeY p <= 2147483647 /\ Ydp p <= 40) (hg : good Ls p), Zc B Ls p f o := YS.ind (P := fun p => ∀ (B : List YB) (Ls : List YS) (f : YS) (o : List YC) (h : B.length <= 1048577 /\ sumBy wB B <= 1048577 /\ wY p <= 1048576 /\ wY f <= 1000000000 /\ o.length + sizeY p <= 2147483647 /\ Ydp p <= 40) (hg : good Ls p), Zc B Ls p f o) (fun p ih B Ls f o h hg => Zc8 B Ls p f o h hg ih) p
abbrev Z5c (B : List YB) (Ls : List YS) (p : YS) (f : YS) : Ct := ⟨8, [], [ll (B.map Yd1), ll (Ls.map Ycz), Ydl p, Ydl f], [.arr true 12 ((mtO B Ls p f).map Yd0)], .tup [.one (.ref 0), lb (mtB B Ls p f)]⟩
theorem Z40 (B : List YB) (Ls : List YS) (p f : YS) (h : B.length <= 1048577 /\ sumBy wB B <= 1048577 /\ wY p <= 1048576 /\ wY f <= 1000000000)  : Z5c B Ls p f :=
 Yde Tryz.call8 Tryz.func8 (.d [.rd, .rd] (Z4z Ls p) (.b (!(okL Ls && Ydk p && (vrS Ls p 0 []).isSome)) (.y true (.y true (.w (.ghost (.nilreg 8 true 12)) (.f [3] [Ob.arr
 true 12 []] (AV.tup [SV.one (AC.ref 0), lb false]))))) (.c [.rd] (Zcu B) (.b (!Yqs B) (.y true (.w (.ghost (.nilreg 8 true 12)) (.f [3] [Ob.arr true 12 []] (AV.tup [SV.one
 (AC.ref 0), lb false])))) (.c [.rd] (Z1s f) (.b (!Ydk f) (.w (.ghost (.nilreg 8 true 12)) (.f [3] [Ob.arr true 12 []] (AV.tup [SV.one (AC.ref 0), lb false]))) (.w (.bool
 false) (.d [.rd, .rd, .rd, .rd, .own true 12] (Zc B Ls p f []) (.b (!(gS B Ls p f).isSome) (.w (.ghost (.nilreg 8 true 12)) (.f [6] [Ob.arr true 12 []] (AV.tup [SV.one
 (AC.ref 0), lb false]))) (.f [5] [Ob.arr true 12 (List.map Yd0 (smO p [] (gS B Ls p f)))] (AV.tup [SV.one (AC.ref 0), lb true]))))))))))) (by
 dsimp only [Yd3, Z5c]
 have g1 := @Ysc Ls p
 have g2 := @Yoi p (gS B Ls p f)
 with_reducible repeat' (first | apply And.intro | exact zR | (intro) | apply mIc | apply mOc | apply mSc | apply mLc | apply Z3v | apply Zbp)
 all_goals ((try simp only [std, inj] at *); with_reducible and_intros)
 all_goals try with_reducible first | apply Z3v | apply Zbp
 all_goals try first | exact z | exact zM | grind [mtB, mtO, Yd7, Yd8, Yd4])
set_option maxHeartbeats 4000000
abbrev Z1k (B : List YB) (Ls : List YS) (ps : List YS) (fs : List YS) (o : List YC) : Ct := ⟨93, [.arr true 12 (o.map Yd0)], [.agg [vL (B.map Yd1), vL (Ls.map Ycz)], ll (ps.map Ycz), ll (fs.map Ycz), .one (.ref 0)], [.dead, .arr true 12 ((alO o (alM (gI B Ls) ps fs)).map Yd0)], .tup [.one (.ref 1), lb (alM (gI B Ls) ps fs).isSome]⟩
abbrev Zg (B : List YB) (Ls : List YS) (p : YS) (f : YS) (o : List YC) : Ct := ⟨35, [.arr true 12 (o.map Yd0)], [.agg [vL (B.map Yd1), vL (Ls.map Ycz)], Ydl p, Ydl f, .one (.ref 0)], [.dead, .arr true 12 ((smO p o (gI B Ls p f)).map Yd0)], .tup [.one (.ref 1), lb (gI B Ls p f).isSome]⟩
def Z4m (B : List YB) (Ls : List YS) (ps : List YS) (fs : List YS) (o : List YC) : Lp Nat := .mk 37 1 (fun x => [(1, ll (ps.map Ycz)), (2, ll
 (fs.map Ycz)), (3, .one (.ref 1)), (4, .one (.ptr 2 0)), (14, li (↑(ps.map Ycz).length : Int)), (15, hs x 0)]) (fun x => [.dead, ho x 1, .box [vL
 (B.map Yd1), vL (Ls.map Ycz)]]) (fun k => [.s (li (k : Int)), .o (.arr true 12 ((alO o (alM (gI B Ls) (ps.take k) fs)).map Yd0))]) (fun k => k
 <= ps.length /\ ps.length <= 9223372036854775807 /\ (alM (gI B Ls) (ps.take k) fs).isSome = true) (fun k => ps.length - k) [.mk ((alM (gI B Ls) ps fs).isSome = true) (.exit 0)
 (fun x => [(3, .one (.ref 1))]) (fun x => [.dead, ho x 0]) [.o (.arr true 12 ((alO o (alM (gI B Ls) ps fs)).map Yd0))], .mk ((alM (gI B Ls) ps fs).isSome =
 false) .ret (fun x => [(8, hs x 0), (9, hs x 1)]) (fun x => [.dead]) [.s (.one (.val (.lit (.slice none 0 0)))), .s (lb false)]]
theorem Zbq (B : List YB) (Ls : List YS) (ps : List YS) (fs : List YS) (o : List YC) (h : B.length <= 1048577 /\ sumBy wB B <= 1048577 /\ sumBy wY ps <=
 1048576 /\ sumBy wY fs <= 1000000000 /\ o.length + sumBy sizeY ps <= 2147483647 /\ ps.length <= fs.length /\ ps.length <= 1048576) (hd : ∀ (z : YS), z ∈ ps -> good Ls z /\ Ydp z <= 40)
 (hl : Ls.all Yfo = true) (ih : ∀ (z : YS), z ∈ ps -> ∀ (B : List YB) (Ls : List YS) (f : YS) (o : List YC), B.length <= 1048577 /\ sumBy wB B <= 1048577 /\ wY z
 <= 1048576 /\ wY f <= 1000000000 /\ o.length + sizeY z <= 2147483647 /\ Ydp z <= 40 -> Ls.all Yfo = true -> good Ls z -> OK (Zg B Ls z f o)) : Lp.Sem Tryz.prog (Ydg Tryz.f93 0)
 (Z4m B Ls ps fs o) := Ydr (fun k => .i ((k : Int) < (↑(ps.map Ycz).length : Int)) (.w (.draw [(10, [1])]) (.x (k : Int) (ps.map Ycz) (Yda (ps.getD k
 default)) (.x (k : Int) (fs.map Ycz) (Yda (fs.getD k default)) (.d [.rd, .rd, .rd, .own true 12] (Zg B Ls (ps.getD k default) (fs.getD k default) (alO o (alM
 (gI B Ls) (ps.take k) fs))) (.b (!(gI B Ls (ps.getD k default) (fs.getD k default)).isSome) (.o 1 [0] [.s (.one (.val (.lit (.slice none 0 0)))), .s (lb false)])
 (.r ((k : Int) + 1) (.g [0, 10, 2] (k + 1) [.s (li ((k : Int) + 1)), .o (.arr true 12 ((smO (ps.getD k default) (alO o (alM (gI B Ls) (ps.take k) fs))
 (gI B Ls (ps.getD k default) (fs.getD k default))).map Yd0))]))))))) (.o 0 [0, 1] [.o (.arr true 12 ((alO o (alM (gI B Ls) (ps.take k) fs)).map Yd0))])) (by
 intro k h; try dsimp only [Yd3, Ydb, Z4m] at h ⊢
 have g1 := @Y1lb (gI B Ls) ps fs o k
 have g2 := @Y1gp (gI B Ls) ps fs (k + 1)
 have g3 := @Y1j4 (gI B Ls) ps fs k
 have g4 := @Y145 B Ls o (ps.take k) fs
 have g5 := hd (ps.getD k default)
 have g6 := @Yew _ wY ps (ps.getD k default)
 have g7 := @Yew _ wY fs (fs.getD k default)
 have g8 := @Ygx _ _ sizeY ps k
 have g9 := Yg2 sizeY ps (k + 1)
 with_reducible repeat' (first | apply And.intro | exact zR | exact ih | (intro) | apply ih)
 all_goals ((try simp only [std, inj] at *); with_reducible and_intros)
 all_goals try with_reducible first | apply ih
 all_goals try first | exact z | grind [Yd6, Yd7, Yd8, Yd4])
theorem Z9e (B : List YB) (Ls : List YS) (ps fs : List YS) (o : List YC) (h : B.length <= 1048577 /\ sumBy wB B <= 1048577 /\ sumBy wY ps <= 1048576 /\ sumBy wY fs <=
 1000000000 /\ o.length + sumBy sizeY ps <= 2147483647 /\ ps.length <= fs.length /\ ps.length <= 1048576) (hd : ∀ z ∈ ps, good Ls z /\ Ydp z <= 40) (hl : Ls.all Yfo = true) (ih : ∀ z ∈
 ps, ∀ (B : List YB) (Ls : List YS) (f : YS) (o : List YC) (h : B.length <= 1048577 /\ sumBy wB B <= 1048577 /\ wY z <= 1048576 /\ wY f <= 1000000000 /\ o.length + sizeY
 z <= 2147483647 /\ Ydp z <= 40) (hl : Ls.all Yfo = true) (hg : good Ls z), Zg B Ls z f o)  : Z1k B Ls ps fs o := Yde Tryz.call93 Tryz.func93 (.z Ycz ps (.w (.ghost
 (.move 0)) (.l (Z4m B Ls ps fs o) (Zbq B Ls ps fs o h hd hl ih) [0, 2, 1] [.s (li 0), .o (.arr true 12 (o.map Yd0))] 0 (.t (.f [1] [.dead, .arr true 12
 ((alO o (alM (gI B Ls) ps fs)).map Yd0)] (.tup [.one (.ref 1), lb true])) (.t (.w (.ghost (.nilreg 8 true 12)) (.f [1] [.dead, .arr true 12 []] (.tup [.one
 (.ref 1), lb false]))) .q))))) (by
 dsimp only [Yd3, Z1k, Ydb, Z4m]
 have g1 := @Y1gl (gI B Ls) ps fs o
 have g2 : (alM (gI B Ls) ps fs).isSome = false -> alO o (alM (gI B Ls) ps fs) = [] := fun h => by cases e : alM (gI B Ls) ps fs <;> simp_all [alO]
 with_reducible repeat' (first | apply And.intro | exact zR | exact ih | (intro))
 all_goals ((try simp only [std, inj] at *); with_reducible and_intros)
 all_goals try with_reducible first | apply ih
 all_goals (try exact zG))
def Z35 (B : List YB) (Ls : List YS) (p : YS) (f : YS) (o : List YC) (k : Nat) : Lp Nat := .mk 217 1 (fun x => [(3, .one (.ref 1)), (4, .one
 (.ptr 2 0)), (5, .one (.ptr 3 0)), (6, .one (.ptr 4 0)), (10, li (atI p.items)), (11, ll (List.take ((atI p.items - 1).toNat - 0) (List.drop 0 (List.map Ycz
 p.items)))), (12, ll (List.take ((p.items.map Ycz).length - (atI p.items + 1).toNat) (List.drop (atI p.items + 1).toNat (p.items.map Ycz)))), (13, li
 ((↑(f.items.map Ycz).length : Int) - (↑(List.take ((atI p.items - 1).toNat - 0) (List.drop 0 (p.items.map Ycz))).length : Int) - (↑(List.take ((List.map Ycz
 p.items).length - (atI p.items + 1).toNat) (List.drop (atI p.items + 1).toNat (p.items.map Ycz))).length : Int))), (15, .one (.ref 5)), (17, li (k : Int)), (18,
 .one (.ref 6)), (181, li (↑((rp (nI Ls (xI p)) (rI B Ls p f k)).map Yd0).length : Int)), (182, hs x 0)]) (fun x => [.dead, .arr true 12 ((alO o
 (alM (gI B Ls) (List.take ((atI p.items - 1).toNat - 0) (p.items.drop 0)) (List.take ((↑(List.take ((atI p.items - 1).toNat - 0) (List.drop 0 (List.map Ycz
 p.items))).length : Int).toNat - 0) (f.items.drop 0)))).map Yd0), .box [vL (B.map Yd1), vL (Ls.map Ycz)], .box (vals (Yda p)), .box (vals (Yda f)),
 ho x 1, ho x 2]) (fun k1 => [.s (li (k1 : Int)), .o (.arr true 12 ((Yeo (nI Ls (xI p)) (rI B Ls p f k) (Yi1 B Ls p f k) k1).map Yd0)), .o (.arr true 12 (List.map
 Ylm (List.take k1 (Yi1 B Ls p f k)) ++ (List.drop k1 (Yi1 B Ls p f k)).map Yd0))]) (fun k1 => k1 <= (nI Ls (xI p)).length /\ (nI Ls (xI p)).length <= 9223372036854775807
 /\ k < mI2 p f /\ fI p f = true /\ qI B Ls p f k = true /\ (gI B Ls (xI p) (f.items.getD (aT p + k) default)).isSome = true /\ (rI B Ls p f k).length <= 1000000000) (fun k1 => (nI Ls
 (xI p)).length - k1) [.mk True (.exit 3) (fun x => [(3, .one (.ref 1)), (4, .one (.ptr 2 0)), (5, .one (.ptr 3 0)), (6, .one (.ptr 4 0)), (10, li (atI p.items)),
 (11, ll (List.take ((atI p.items - 1).toNat - 0) (List.drop 0 (p.items.map Ycz)))), (12, ll (List.take ((p.items.map Ycz).length - (atI p.items + 1).toNat)
 (List.drop (atI p.items + 1).toNat (p.items.map Ycz)))), (13, li ((↑(f.items.map Ycz).length : Int) - (↑(List.take ((atI p.items - 1).toNat - 0) (List.drop 0
 (p.items.map Ycz))).length : Int) - (↑(List.take ((p.items.map Ycz).length - (atI p.items + 1).toNat) (List.drop (atI p.items + 1).toNat (List.map Ycz
 p.items))).length : Int))), (15, .one (.ref 5)), (17, li (k : Int))]) (fun x => [.dead, .arr true 12 ((alO o (alM (gI B Ls) (List.take ((atI p.items -
 1).toNat - 0) (p.items.drop 0)) (List.take ((↑(List.take ((atI p.items - 1).toNat - 0) (List.drop 0 (p.items.map Ycz))).length : Int).toNat - 0) (List.drop 0
 f.items)))).map Yd0), .box [vL (B.map Yd1), vL (Ls.map Ycz)], .box (vals (Yda p)), .box (vals (Yda f)), ho x 0]) [.o (.arr true 12 (List.map Yd0
 (rp (nI Ls (xI p)) (rI B Ls p f (k + 1)))))]]
def Z1w (B : List YB) (Ls : List YS) (p : YS) (f : YS) (o : List YC) : Lp Nat := .mk 217 1 (fun x => [(3, .one (.ref 1)), (4, .one (.ptr 2
 0)), (5, .one (.ptr 3 0)), (6, .one (.ptr 4 0)), (10, li (atI p.items)), (11, ll (List.take ((atI p.items - 1).toNat - 0) (List.drop 0 (p.items.map Ycz)))), (12,
 ll (List.take ((p.items.map Ycz).length - (atI p.items + 1).toNat) (List.drop (atI p.items + 1).toNat (p.items.map Ycz)))), (13, li ((↑(List.map Ycz
 f.items).length : Int) - (↑(List.take ((atI p.items - 1).toNat - 0) (List.drop 0 (p.items.map Ycz))).length : Int) - (↑(List.take ((p.items.map Ycz).length -
 (atI p.items + 1).toNat) (List.drop (atI p.items + 1).toNat (p.items.map Ycz))).length : Int))), (15, .one (.ref 5)), (17, hs x 0)]) (fun x => [.dead, .arr true
 12 ((alO o (alM (gI B Ls) (List.take ((atI p.items - 1).toNat - 0) (p.items.drop 0)) (List.take ((↑(List.take ((atI p.items - 1).toNat - 0) (List.drop 0
 (p.items.map Ycz))).length : Int).toNat - 0) (f.items.drop 0)))).map Yd0), .box [vL (B.map Yd1), vL (Ls.map Ycz)], .box (vals (Yda p)), .box
 (vals (Yda f)), ho x 1]) (fun k => [.s (li (k : Int)), .o (.arr true 12 ((rp (nI Ls (xI p)) (rI B Ls p f k)).map Yd0))]) (fun k => k <= mI2 p f /\ fI p f = true /\
 qI B Ls p f k = true) (fun k => mI2 p f - k) [.mk (qI B Ls p f (mI2 p f) = true) (.exit 1) (fun x => [(3, .one (.ref 1)), (4, .one (.ptr 2 0)), (6, .one (.ptr 3 0)),
 (11, ll (List.take ((atI p.items - 1).toNat - 0) (List.drop 0 (p.items.map Ycz)))), (12, ll (List.take ((p.items.map Ycz).length - (atI p.items + 1).toNat)
 (List.drop (atI p.items + 1).toNat (p.items.map Ycz)))), (13, li ((↑(f.items.map Ycz).length : Int) - (↑(List.take ((atI p.items - 1).toNat - 0) (List.drop 0
 (p.items.map Ycz))).length : Int) - (↑(List.take ((p.items.map Ycz).length - (atI p.items + 1).toNat) (List.drop (atI p.items + 1).toNat (List.map Ycz
 p.items))).length : Int))), (15, .one (.ref 4))]) (fun x => [.dead, .arr true 12 ((alO o (alM (gI B Ls) (List.take ((atI p.items - 1).toNat - 0)
 (p.items.drop 0)) (List.take ((↑(List.take ((atI p.items - 1).toNat - 0) (List.drop 0 (p.items.map Ycz))).length : Int).toNat - 0) (f.items.drop 0)))).map Yd0), .box
 [vL (B.map Yd1), vL (Ls.map Ycz)], .box (vals (Yda f)), ho x 0]) [.o (.arr true 12 ((rp (nI Ls (xI p)) (rI B Ls p f (mI2 p f))).map Yd0))],
 .mk ((gI B Ls p f).isSome = false) .ret (fun x => [(8, hs x 0), (9, hs x 1)]) (fun x => [.dead]) [.s (.one (.val (.lit (.slice none 0 0)))), .s (lb false)]]
theorem Z9p (B : List YB) (Ls : List YS) (p : YS) (f : YS) (o : List YC) (h : B.length <= 1048577 /\ sumBy wB B <= 1048577 /\ wY p <= 1048576 /\ wY f <=
 1000000000 /\ o.length + sizeY p <= 2147483647 /\ Ydp p <= 40) (hl : Ls.all Yfo = true) (hg : good Ls p) (ih : ∀ (z : YS), z ∈ p.items -> ∀ (B : List YB) (Ls : List YS)
 (f : YS) (o : List YC), B.length <= 1048577 /\ sumBy wB B <= 1048577 /\ wY z <= 1048576 /\ wY f <= 1000000000 /\ o.length + sizeY z <= 2147483647 /\ Ydp z <= 40 -> Ls.all Yfo =
 true -> good Ls z -> OK (Zg B Ls z f o)) (k : Nat) : Lp.Sem Tryz.prog (Ydg Tryz.f35 1) (Z35 B Ls p f o k) := Ydr (fun k1 => let v1 := ((Yeo (nI Ls (xI p)) (rI B
 Ls p f k) (Yi1 B Ls p f k) k1).getD (k1 : Int).toNat default); let v2 := [cI 0, cI 0, cS (ByteArray.mk #[]), .list [], .list [], cI 0, cI 0, cI 0, cS (ByteArray.mk #[]),
 .list [], .list [], .list []]; let v3 := ((Yeo (nI Ls (xI p)) (rI B Ls p f k) (Yi1 B Ls p f k) k1).map Yd0); let v4 := ((Yi1 B Ls p f k).getD k1 default);
 let v5 := ((List.take k1 (Yi1 B Ls p f k)).map Ylm ++ (List.drop k1 (Yi1 B Ls p f k)).map Yd0); let v6 := [(k1 : Int).toNat, (k1 : Int).toNat, (↑k1 :
 Int).toNat, (k1 : Int).toNat, (k1 : Int).toNat]; let v7 := [cI v1.name.kind, cI v1.name.number, cS v1.name.text, .list (v1.name.scopes.map Yd2), .list (List.map
 Ycz v1.name.items), cI v1.depth, cI v1.form.kind, cI v1.form.number, cS v1.form.text, .list (v1.form.scopes.map Yd2), .list (v1.form.items.map Ycz),
 .any]; let v10 := (v1.each.map Yd0 ++ [v2]); let v9 := (↑(v1.each.map Yd0).length : Int); let v8 := [cI v1.name.kind, cI v1.name.number, cS v1.name.text,
 .list (v1.name.scopes.map Yd2), .list (v1.name.items.map Ycz), cI v1.depth, cI v1.form.kind, cI v1.form.number, cS v1.form.text, .list (List.map Yd2
 v1.form.scopes), .list (v1.form.items.map Ycz), .list (v10.set v9.toNat (Ydj v4))]; .i ((k1 : Int) < (↑((rp (nI Ls (xI p)) (rI B Ls p f
 k)).map Yd0).length : Int)) (.w (.drawT 13 16 12 [(11, [5, 11]), (13, [6, 13]), (16, [13, 5])]) (.p (0 <= (k1 : Int) /\ (k1 : Int).toNat < v3.length) (.w .sub (.p ((k1 : Int).toNat <
 v3.length) (.p (0 <= (k1 : Int) /\ (k1 : Int).toNat < v5.length) (.w (.subs (Ydj v4)) (.p (v5[(k1 : Int).toNat]? = some (Ydj v4)) (.w (.cells (Ydj v1)) (.p
 (v3[(k1 : Int).toNat]? = some (Ydj v1)) (.w (.subcall (Ydj v1) (v1.each.map Yd0) 12) (.p (v3[(k1 : Int).toNat]? = some (Ydj v1)) (.p (some (Cell.list
 (v1.each.map Yd0)) = some (Cell.list (v1.each.map Yd0))) (.p (∀ (x : List Cell), x ∈ v1.each.map Yd0 -> x.length = 12) (.p (((List.map Yd0
 v1.each).length + 1) * 192 <= 140737488355328) (.p (0 <= v9 /\ v9.toNat < v10.length) (.w (.subs (Ydj v4)) (.w (.cells v2) (.p (v6 = v6) (.p (v5[(k1 : Int).toNat]? = some
 (Ydj v4)) (.p (v10[v9.toNat]? = some v2) (.p (0 <= (k1 : Int) /\ (k1 : Int).toNat < (v3.set (k1 : Int).toNat v7).length) (.w (.take v7 (v3.set (k1 : Int).toNat v8) 0) (.p
 ((v3.set (k1 : Int).toNat v7)[(k1 : Int).toNat]? = some v7) (.p ((v3.set (k1 : Int).toNat v7).set (k1 : Int).toNat v8 = v3.set (k1 : Int).toNat v8) (.p (v9.toNat <
 v10.length) (.p ((k1 : Int).toNat < (v3.set (k1 : Int).toNat v7).length) (.z Yd0 v1.each (.r ((k1 : Int) + 1) (.g [0, 1, 2, 3, 4, 5, 6] (k1 + 1) [.s (li ((k1 : Int) +
 1)), .o (.arr true 12 (v3.set (k1 : Int).toNat v8)), .o (.arr true 12 (v5.set (k1 : Int).toNat [cI v4.name.kind, cI v4.name.number, cS v4.name.text, .any, .any, cI
 v4.depth, cI v4.form.kind, cI v4.form.number, cS v4.form.text, .any, .any, .any]))]))))))))))))))))))))))))))))) (.o 0 [0, 1, 2, 3, 4, 5] [.o (.arr true 12 v3)]))
 (by
 intro k1 h; try dsimp only [Yd3, Ydb, Z35] at h ⊢
 have gl := Yh3 (nI Ls (xI p)) (rI B Ls p f k)
 have g3 := Y11l (nI Ls (xI p)) (rI B Ls p f k) (Yi1 B Ls p f k) k1
 have gc := @Y1ch B Ls p f k
 have ge := @Y1a8 B Ls p f k k1
 have gz := @Y1ai B Ls p f k k1
 with_reducible repeat' (first | apply And.intro | exact zR | (intro))
 all_goals ((try simp only [std, inj] at *); with_reducible and_intros)
 all_goals try first | exact zw | exact List.set_set .. | exact Y10z (by grind) | exact Yzc (by grind) | exact Y158 (by grind) | exact Yxt _ (by omega) | exact gz h.2.2.2.2.1 h.2.2.2.2.2.1 (by omega) | grind)
theorem Z6c (B : List YB) (Ls : List YS) (p : YS) (f : YS) (o : List YC) (h : B.length <= 1048577 /\ sumBy wB B <= 1048577 /\ wY p <= 1048576 /\ wY f <=
 1000000000 /\ o.length + sizeY p <= 2147483647 /\ Ydp p <= 40) (hl : Ls.all Yfo = true) (hg : good Ls p) (ih : ∀ (z : YS), z ∈ p.items -> ∀ (B : List YB) (Ls : List YS)
 (f : YS) (o : List YC), B.length <= 1048577 /\ sumBy wB B <= 1048577 /\ wY z <= 1048576 /\ wY f <= 1000000000 /\ o.length + sizeY z <= 2147483647 /\ Ydp z <= 40 -> Ls.all Yfo =
 true -> good Ls z -> OK (Zg B Ls z f o)) : Lp.Sem Tryz.prog (Ydg Tryz.f35 0) (Z1w B Ls p f o) := Ydr (fun k => .i ((k : Int) < (↑(f.items.map Ycz).length
 : Int) - (↑(List.take ((atI p.items - 1).toNat - 0) (List.drop 0 (p.items.map Ycz))).length : Int) - (↑(List.take ((p.items.map Ycz).length - (atI p.items +
 1).toNat) (List.drop (atI p.items + 1).toNat (p.items.map Ycz))).length : Int)) (.w (.draw []) (.r (atI p.items - 1) (.x (atI p.items - 1) (p.items.map Ycz)
 (Yda (p.items.getD (atI p.items - 1).toNat default)) (.r ((↑(List.take ((atI p.items - 1).toNat - 0) (List.drop 0 (p.items.map Ycz))).length : Int) + (k : Int)) (.x
 ((↑(List.take ((atI p.items - 1).toNat - 0) (List.drop 0 (p.items.map Ycz))).length : Int) + (k : Int)) (f.items.map Ycz) (Yda (f.items.getD ((List.take
 ((atI p.items - 1).toNat - 0) (List.drop 0 (p.items.map Ycz))).length + k) default)) (.d [.rd, .rd, .rd, .own true 12] (Zg B Ls (p.items.getD (atI p.items -
 1).toNat default) (f.items.getD ((List.take ((atI p.items - 1).toNat - 0) (List.drop 0 (p.items.map Ycz))).length + k) default) []) (.h ((List.take ((atI p.items -
 1).toNat - 0) (List.drop 0 (p.items.map Ycz))).length <= 9223372036854775807) (.b (!(gI B Ls (p.items.getD (atI p.items - 1).toNat default) (f.items.getD ((List.take ((atI
 p.items - 1).toNat - 0) (List.drop 0 (p.items.map Ycz))).length + k) default)).isSome) (.o 1 [0] [.s (.one (.val (.lit (.slice none 0 0)))), .s (lb false)])
 (.z Yd0 (rp (nI Ls (xI p)) (rI B Ls p f k)) (.l (Z35 B Ls p f o k) (Z9p B Ls p f o h hl hg ih k) [0, 1, 2, 3, 4, 5, 17] [.s (li 0), .o (.arr true 12
 ((rp (nI Ls (xI p)) (rI B Ls p f k)).map Yd0)), .o (.arr true 12 ((smO (p.items.getD (atI p.items - 1).toNat default) [] (gI B Ls (p.items.getD (atI
 p.items - 1).toNat default) (f.items.getD ((List.take ((atI p.items - 1).toNat - 0) (List.drop 0 (p.items.map Ycz))).length + k) default))).map Yd0))] 0 (.t (.r ((k : Int) + 1)
 (.g [0, 1, 2, 3, 4, 5] (k + 1) [.s (li ((k : Int) + 1)), .o (.arr true 12 ((rp (nI Ls (xI p)) (rI B Ls p f (k + 1))).map Yd0))])) .q))))))))))) (.o 0 [0, 1, 2, 4, 5]
 [.o (.arr true 12 ((rp (nI Ls (xI p)) (rI B Ls p f k)).map Yd0))])) (by
 intro k h; try dsimp only [Yd3, Ydb, Z1w, Z35] at h ⊢
 rename_i hh
 have gn := Ym9 h.2.1
 have gx := Y1ih h.2.1 hg
 have e1 := Y15b h.2.1
 have e2 := Y1dg h.2.1
 have e3 := Y1hl h.2.2
 have gl := Y174 f
 have gs := Yxj (Ls := Ls) (xI p)
 have gt := Yu7 (xI p)
 have g10 := Yre (nI Ls (xI p)) (rI B Ls p f k) (Yi1 B Ls p f k)
 have g12 := Yh3 (nI Ls (xI p)) (rI B Ls p f k)
 have gw := @Yl0 (aT p + k) f
 with_reducible repeat' (first | apply And.intro | exact zR | exact ih | (intro))
 all_goals (try simp only [std, inj, e1, Y18l] at *)
 all_goals with_reducible and_intros
 all_goals try first | with_reducible apply ih
 all_goals try first | exact zw | (have q := gw (by omega); omega) | exact Y176 h.2.1 (by omega) h.2.2 (Y1em ‹_›) | exact Y1bl | exact Y16t ‹_› | exact (Y152 h.2.2 (Y16t ‹_›)).2 | exact Y1ht (by omega) h.2.2 | exact Y1i3 (by omega) | grind)
theorem Zc9 (B : List YB) (Ls : List YS) (p f : YS) (o : List YC) (h : B.length <= 1048577 /\ sumBy wB B <= 1048577 /\ wY p <= 1048576 /\ wY f <= 1000000000 /\
 o.length + sizeY p <= 2147483647 /\ Ydp p <= 40) (hl : Ls.all Yfo = true) (hg : good Ls p) (ih : ∀ z ∈ p.items, ∀ (B : List YB) (Ls : List YS) (f : YS) (o : List
 YC) (h : B.length <= 1048577 /\ sumBy wB B <= 1048577 /\ wY z <= 1048576 /\ wY f <= 1000000000 /\ o.length + sizeY z <= 2147483647 /\ Ydp z <= 40) (hl : Ls.all Yfo = true) (hg : good
 Ls z), Zg B Ls z f o)  : Zg B Ls p f o := Yde Tryz.call35 Tryz.func35 (let v15 := (atI p.items - 1); let v14 := (p.items.map Ycz); let v7 := (↑(List.take
 (v15.toNat - 0) (v14.drop 0)).length : Int); let v11 := (↑(f.items.map Ycz).length : Int); let v17 := (atI p.items + 1); let v9 := (↑(List.take (v14.length -
 v17.toNat) (List.drop v17.toNat v14)).length : Int); let v1 := (v7 + (v11 - v7 - v9)); let v12 := (List.take (v15.toNat - 0) (p.items.drop 0)); let v18 := (List.take
 (v7.toNat - 0) (f.items.drop 0)); let v2 := (alM (gI B Ls) v12 v18); let v3 := (List.take (v14.length - v17.toNat) (List.drop v17.toNat p.items)); let v4 := ((List.take
 (v15.toNat - 0) (v14.drop 0)).length <= 9223372036854775807); let v26 := (.ref 1); let v5 := (.tup [.one v26, lb false]); let v6 := (0 <= v7 + (v11 - v7 - v9)); let v27
 := (List.take (v14.length - v17.toNat) (List.drop v17.toNat v14)); let v25 := (f.items.map Ycz); let v28 := (alO o v2 ++ rp (nI Ls (xI p)) (rI B Ls p f (mI2 p f))); let
 v13 := (List.take (v25.length - v1.toNat) (List.drop v1.toNat f.items)); let v21 := [.dead, .arr true 12 ((alO v28 (alM (gI B Ls) v3 v13)).map Yd0)]; let v24 :=
 (.tup [.one v26, lb (alM (gI B Ls) v3 v13).isSome]); let v8 := (Ygd Tryz.prog 93 [.arr true 12 ((alO o v2).map Yd0 ++ (rp (nI Ls (xI p)) (rI B
 Ls p f (mI2 p f))).map Yd0)] [.agg [vL (B.map Yd1), vL (Ls.map Ycz)], ll v27, ll (List.take (v25.length - v1.toNat) (List.drop v1.toNat v25)), .one (.ref 0)] v21
 v24); let v10 := [.dead, .arr true 12 (o.map Yd0)]; let v16 := [.dead, .arr true 12 []]; let v19 := (Ygd Tryz.prog 93 [.arr true 12 (o.map Yd0)]
 [.agg [vL (B.map Yd1), vL (Ls.map Ycz)], ll (List.take (v15.toNat - 0) (v14.drop 0)), ll (List.take (v7.toNat - 0) (v25.drop 0)), .one (.ref 0)]
 [.dead, .arr true 12 ((alO o v2).map Yd0)] (.tup [.one v26, lb v2.isSome])); let v20 := [.dead, .arr true 12 (o.map Yd0 ++ [[cI p.kind, cI
 p.number, cS p.text, .list (p.scopes.map Yd2), .list v14, cI 0, cI f.kind, cI f.number, cS f.text, .list (f.scopes.map Yd2), .list v25, .list
 []]])]; let v22 := ((((alO o v2).map Yd0).length + ((rp (nI Ls (xI p)) (rI B Ls p f (mI2 p f))).map Yd0).length) * 192 <= 140737488355328); let v23 :=
 (p.items.getD v15.toNat default); let v29 := [(6, [6, 7, 16, 17]), (7, [0, 24])]; let v30 := [.dead, .arr true 12 ((alO o (alM (gI B Ls) p.items f.items)).map Yd0)];
 let v31 := (((o.map Yd0).length + 1) * 192 <= 140737488355328); let v32 := (.arr true 12 (((vrI Ls v23 1 []).getD []).map Yd0)); .c [.rd] (Z5y p) (.b
 (decide (p.kind = 1) && Ye3 p) (.w (.ghost (.move 0)) (.f [4] v10 (.tup [.one v26, lb true]))) (.i (p.kind = 1) (.c [.rd, .rd] (Z77 Ls p) (.b (Yfr Ls p) (.i (f.kind =
 1) (.d [.rd, .rd, .rd] (Z5v B p f) (.w (.ghost (.move 0)) (.f [4] v10 (.tup [.one v26, lb (mng B p f)])))) (.w (.ghost (.move 0)) (.f [4] v10 v5))) (.i (p.kind = 1) (.w
 (.draw v29) (.d [.rd] (Zr p) (.d [.rd] (Zr f) (.p v31 (.f [25] v20 (.tup [.one v26, lb true])))))) (.i (p.kind ≠ 0) (.w (.draw []) (.i (f.kind = p.kind) (.i
 (f.number = p.number) (.w (.ghost (.move 0)) (.f [4] v10 (.tup [.one v26, lb (decide (f.text.data.toList = p.text.data.toList))]))) (.w (.ghost (.move 0)) (.f [4] v10 v5)))
 (.y false (.w (.ghost (.move 0)) (.f [4] v10 v5))))) (.i (f.kind ≠ 0) (.w (.ghost (.nilreg 8 true 12)) (.w (.ghost (.move 0)) (.f [4] v16 v5))) (.c [.rd] (Z89 p.items) (.i (atI
 p.items < 0) (.z Ycz p.items (.z Ycz f.items (.i ((↑(p.items.map Ycz).length : Int) ≠ v11) (.w (.ghost (.nilreg 8 true 12)) (.w (.ghost (.move 0)) (.f [4] v16
 v5))) (.d [.rd, .rd, .rd, .own true 12] (Z1k B Ls p.items f.items o) (.f [5] v30 (.tup [.one v26, lb (alM (gI B Ls) p.items f.items).isSome])))))) (.r v15 (.p (0 <= atI
 p.items - 1) (.p (0 <= v15.toNat /\ v15.toNat <= v14.length /\ ∀ (e : List Cell), e ∈ p.items.map Ycz -> e.length = 5) (.r v17 (.p (0 <= atI p.items + 1) (.p (v17.toNat <=
 v14.length /\ v14.length <= v14.length /\ ∀ (e : List Cell), e ∈ p.items.map Ycz -> e.length = 5) (.z Ycz f.items (.h v4 (.r (v11 - v7) (.h (v27.length <=
 9223372036854775807) (.r (v11 - v7 - v9) (.i (v11 - v7 - v9 < 0) (.w (.ghost (.nilreg 8 true 12)) (.w (.ghost (.move 0)) (.f [4] v16 v5))) (.w (.draw [(8, [0])]) (.p (0 <= v7) (.p
 (0 <= v7.toNat /\ v7.toNat <= v25.length /\ ∀ (e : List Cell), e ∈ f.items.map Ycz -> e.length = 5) (.u [.rd, .rd, .rd, .own true 12] (Z1k B Ls v12 v18 o) (.p v19 (.h v4
 (.b (!(alM (gI B Ls) v12 v18).isSome) (.w (.ghost (.nilreg 8 true 12)) (.f [10] v16 v5)) (.w (.draw []) (.r v15 (.x v15 v14 (Yda v23) (.d [.rd, .rd, .rd, .own true 12]
 (Z9 Ls v23 1 []) (.l (Z1w B Ls p f o) (Z6c B Ls p f o h hl hg ih) [0, 9, 1, 2, 3, 17] [.s (li 0), .o v32] 0 (.t (.p v22 (.w (.draw [(10, [5])]) (.r v1 (.p
 v6 (.p (v1.toNat <= v25.length /\ v25.length <= v25.length /\ ∀ (e : List Cell), e ∈ f.items.map Ycz -> e.length = 5) (.u [.rd, .rd, .rd, .own true 12] (Z1k B Ls v3 v13
 v28) (.p v8 (.h v4 (.f [11] v21 v24))))))))) (.t (.w (.ghost (.nilreg 8 true 12)) (.f [1] v16 v5)) .q))))))))))))))))))))))))))))))))) (.y false (.i (p.kind = 1) (.w (.draw v29)
 (.d [.rd] (Zr p) (.d [.rd] (Zr f) (.p v31 (.f [25] v20 (.tup [.one v26, lb true])))))) (.i (p.kind ≠ 0) (.w (.draw []) (.i (f.kind = p.kind) (.i (f.number =
 p.number) (.w (.ghost (.move 0)) (.f [4] v10 (.tup [.one v26, lb (decide (f.text.data.toList = p.text.data.toList))]))) (.w (.ghost (.move 0)) (.f [4] v10 v5))) (.y false (.w
 (.ghost (.move 0)) (.f [4] v10 v5))))) (.i (f.kind ≠ 0) (.w (.ghost (.nilreg 8 true 12)) (.w (.ghost (.move 0)) (.f [4] v16 v5))) (.c [.rd] (Z89 p.items) (.i (atI p.items < 0)
 (.z Ycz p.items (.z Ycz f.items (.i ((↑(p.items.map Ycz).length : Int) ≠ v11) (.w (.ghost (.nilreg 8 true 12)) (.w (.ghost (.move 0)) (.f [4] v16 v5))) (.d [.rd,
 .rd, .rd, .own true 12] (Z1k B Ls p.items f.items o) (.f [5] v30 (.tup [.one v26, lb (alM (gI B Ls) p.items f.items).isSome])))))) (.r v15 (.p (0 <= atI p.items - 1) (.p
 (0 <= v15.toNat /\ v15.toNat <= v14.length /\ ∀ (e : List Cell), e ∈ p.items.map Ycz -> e.length = 5) (.r v17 (.p (0 <= atI p.items + 1) (.p (v17.toNat <= v14.length /\
 v14.length <= v14.length /\ ∀ (e : List Cell), e ∈ p.items.map Ycz -> e.length = 5) (.z Ycz f.items (.h v4 (.r (v11 - v7) (.h (v27.length <= 9223372036854775807) (.r (v11
 - v7 - v9) (.i (v11 - v7 - v9 < 0) (.w (.ghost (.nilreg 8 true 12)) (.w (.ghost (.move 0)) (.f [4] v16 v5))) (.w (.draw [(8, [0])]) (.p (0 <= v7) (.p (0 <= v7.toNat /\ v7.toNat <=
 v25.length /\ ∀ (e : List Cell), e ∈ f.items.map Ycz -> e.length = 5) (.u [.rd, .rd, .rd, .own true 12] (Z1k B Ls v12 v18 o) (.p v19 (.h v4 (.b (!(alM (gI B Ls) v12
 v18).isSome) (.w (.ghost (.nilreg 8 true 12)) (.f [10] v16 v5)) (.w (.draw []) (.r v15 (.x v15 v14 (Yda v23) (.d [.rd, .rd, .rd, .own true 12] (Z9 Ls v23 1 []) (.l
 (Z1w B Ls p f o) (Z6c B Ls p f o h hl hg ih) [0, 9, 1, 2, 3, 17] [.s (li 0), .o v32] 0 (.t (.p v22 (.w (.draw [(10, [5])]) (.r v1 (.p v6 (.p (v1.toNat <= v25.length
 /\ v25.length <= v25.length /\ ∀ (e : List Cell), e ∈ f.items.map Ycz -> e.length = 5) (.u [.rd, .rd, .rd, .own true 12] (Z1k B Ls v3 v13 v28) (.p v8 (.h v4 (.f [11] v21
 v24))))))))) (.t (.w (.ghost (.nilreg 8 true 12)) (.f [1] v16 v5)) .q))))))))))))))))))))))))))))))))))) (by
 dsimp only [Yd3, Zg, Ydb, Z1w]
 have g1 := @Y1gg B Ls p f o
 have g2 := @Y1im B Ls p f o
 have g3 := @Y1hw B Ls p f o
 have g4 := @Yzx B Ls p f o
 have g6 := @Y1df B Ls p f o
 have g14 := @Y18s Ls p hg
 have g19 := Yfq f
 have g20 := Yfq p
 have g21 := Ye6 p
 have g22 := Yyd o p f
 with_reducible repeat' (first | apply And.intro | exact zR | (intro) | apply Z5y | apply Z77 | apply Za1 | apply Z4 | apply Z89 | apply Z9e | apply Z5z)
 all_goals ((try simp only [std, inj] at *); with_reducible and_intros)
 all_goals try first | with_reducible apply Za1 | with_reducible apply Z4 | with_reducible apply Z9e | with_reducible apply Z5z | (simp only [<- List.map_append]; with_reducible apply Z9e)
 all_goals (try (
  have hf := Y1kx hg ‹_› ‹_› ‹_› ‹_›
  have e1 := Y1d8 hf
  have e2 := Y1dy hf
  have e3 := Y1j2 hf
  simp only [Y1jj, e1, e2, e3, Yln, Y18l, Y1f7, Y1ge] at *
  have gn := Ym9 hf
  have gx := Y1ih hf hg
  have pl := Y11c (Yhw hf).2.2.1 (Yhw hf).2.2.2.1
  have s1 := Y1ig f (aT p)
  have s2 := Y1ig f (aT p + mI2 p f)
  have s3 := @Y145 B Ls o (List.take (aT p) p.items) (List.take (aT p) f.items)
  have s4 := Yxj (Ls := Ls) (xI p)
  have s5 := Yh3 (nI Ls (xI p)) (rI B Ls p f (mI2 p f))))
 all_goals with_reducible and_intros
 all_goals try first | exact zw | (have q := Ylg hg (Decidable.not_not.1 ‹¬¬p.kind = 0›); omega) | exact (Y15s ‹_› ‹_›).1 | exact (Y15s (o := o) ‹_› ‹_›).2 | exact (Y14i ‹_› ‹_› ‹_› ‹_›).1 | exact (Y14i (o := o) ‹_› ‹_› ‹_› ‹_›).2 | exact (Y1b3 hg ‹_› ‹_› ‹_› ‹_›).1 | exact (Y1b3 (o := o) hg ‹_› ‹_› ‹_› ‹_›).2 | exact Y1kh ‹_› ‹_› ‹_› ‹_› | exact (Y19c hf ‹_›).1 | exact (Y19c (o := o) hf ‹_›).2 | exact (Y14q ‹_› ‹_›).1 | exact (Y14q (o := o) ‹_› ‹_›).2 | exact (Y18u hf ‹_› ‹_›).1 | exact (Y18u (o := o) hf ‹_› ‹_›).2 | exact Y1dl hl hg hf | exact Y1de hg (Yhw hf).1 (Yhw hf).2.2.1 (Yhw hf).2.2.2.1 (by omega) | exact Y1bi hg (Yhw hf).1 (Yhw hf).2.2.1 (Yhw hf).2.2.2.1 (by omega) | (simp only [List.length_append, List.length_take, List.length_drop, List.length_nil] at *; omega) | rfl | grind)
theorem Zbr (p : YS) : ∀ (B : List YB) (Ls : List YS) (f : YS) (o : List YC) (h : B.length <= 1048577 /\ sumBy wB B <= 1048577 /\ wY p <= 1048576 /\ wY f <= 1000000000 /\ o.length + sizeY p <= 2147483647 /\ Ydp p <= 40) (hl : Ls.all Yfo = true) (hg : good Ls p), Zg B Ls p f o := YS.ind (P := fun p => ∀ (B : List YB) (Ls : List YS) (f : YS) (o : List YC) (h : B.length <= 1048577 /\ sumBy wB B <= 1048577 /\ wY p <= 1048576 /\ wY f <= 1000000000 /\ o.length + sizeY p <= 2147483647 /\ Ydp p <= 40) (hl : Ls.all Yfo = true) (hg : good Ls p), Zg B Ls p f o) (fun p ih B Ls f o h hl hg => Zc9 B Ls p f o h hl hg ih) p
theorem Y19l {B : List YB} {Ls : List YS} {p f : YS} (hL : okL Ls = true) (hp : Ydk p = true) (hv : (vrS Ls p 0 []).isSome = true) : gI B Ls p f = gS B Ls p f /\ Ls.all Yfo = true := by
 simp only [okL, Bool.and_eq_true] at hL
 exact ⟨((Y151 (M := mng B) (List.all_eq_true.1 hL.1) p (Ysc hp hv).1).1 f).symm, hL.1⟩
theorem Y1j9 {B : List YB} {Ls : List YS} {p f : YS} (h1 : Yqs B = true) (h2 : Ydk f = true) (h3 : okL Ls = true) (h4 : Ydk p = true) (h5 : (vrS Ls p 0 []).isSome = true) : smO p [] (gI B Ls p f) = mtO B Ls p f := by
 rw [(Y19l (B := B) (f := f) h3 h4 h5).1, Yoi]
 unfold mtO mtB
 cases e : gS B Ls p f with
 | none => simp
 | some c => simp [h1, h2, h3, h4, h5]
abbrev Z5d (B : List YB) (Ls : List YS) (p : YS) (f : YS) : Ct := ⟨7, [], [ll (B.map Yd1), ll (Ls.map Ycz), Ydl p, Ydl f], [.arr true 12 ((mtO B Ls p f).map Yd0)], .tup [.one (.ref 0), lb (mtB B Ls p f)]⟩
theorem Z41 (B : List YB) (Ls : List YS) (p f : YS) (h : B.length <= 1048577 /\ sumBy wB B <= 1048577 /\ wY p <= 1048576 /\ wY f <= 1000000000)  : Z5d B Ls p f :=
 Yde Tryz.call7 Tryz.func7 (.c [.rd] (Zcv B) (.b (!Yqs B) (.y true (.w (.ghost (.nilreg 8 true 12)) (.f [2] [Ob.arr true 12 []] (AV.tup [SV.one (AC.ref 0), lb false])))) (.c
 [.rd] (Z1t f) (.b (!Ydk f) (.w (.ghost (.nilreg 8 true 12)) (.f [2] [Ob.arr true 12 []] (AV.tup [SV.one (AC.ref 0), lb false]))) (.d [.rd, .rd] (Z6g Ls p) (.b
 (!(okL Ls && Ydk p && (vrS Ls p 0 []).isSome)) (.w (.ghost (.nilreg 8 true 12)) (.f [3] [Ob.arr true 12 []] (AV.tup [SV.one (AC.ref 0), lb false]))) (.d [.rd, .rd, .rd, .own
 true 12] (Zg B Ls p f []) (.f [4] [Ob.arr true 12 (List.map Yd0 (smO p [] (gI B Ls p f)))] (AV.tup [SV.one (AC.ref 0), lb (gI B Ls p f).isSome]))))))))) (by
 dsimp only [Yd3, Z5d]
 have g1 := @Ysc Ls p
 have g2 := @Yoi p (gS B Ls p f)
 have g3 := @Y19l B Ls p f
 have g4 := @Y1j9 B Ls p f
 with_reducible repeat' (first | apply And.intro | exact zR | (intro) | apply Zb1 | apply Zbr)
 all_goals ((try simp only [std, inj] at *); with_reducible and_intros)
 all_goals try with_reducible first | apply Zb1 | apply Zbr
 all_goals try first | exact z | grind [mtB, mtO, Yd7, Yd8, Yd4])
set_option maxHeartbeats 4000000
mutual
/-- the names of a form, each once -/
def Ydu : YS -> List YS -> List YS
 | ⟨k, n, t, s, l⟩, o => Yuc l (if k = 1 /\ Ydo o ⟨k, n, t, s, l⟩ = false then o ++ [⟨k, n, t, s, l⟩] else o)
def Yuc : List YS -> List YS -> List YS
 | [], o => o
 | x :: r, o => Yuc r (Ydu x o)
end
theorem Yz8 : ∀ (l : List YS) (o : List YS), Yuc l o = l.foldl (fun o x => Ydu x o) o
 | [], _ => by rw [Yuc]; rfl
 | x :: r, o => by rw [Yuc, Yz8 r]; rfl
def Ylq (s : YS) (o : List YS) : List YS := if s.kind = 1 /\ Ydo o s = false then o ++ [s] else o
theorem Yw9 (s : YS) (o : List YS) : Ydu s o = s.items.foldl (fun o x => Ydu x o) (Ylq s o) := by cases s; simp only [Ydu, Yz8, Ylq]
theorem Yzi (s : YS) (o : List YS) : (Ylq s o).length <= o.length + 1 := by unfold Ylq; split <;> simp
theorem Ysz : ∀ (L : List YS), (∀ x ∈ L, ∀ o, (Ydu x o).length <= o.length + sizeY x) -> ∀ o, (L.foldl (fun o x => Ydu x o) o).length <= o.length + sumBy sizeY L
 | [], _, o => by simp [sumBy]
 | x :: r, h, o => by
  have h1 := h x List.mem_cons_self o
  have h2 := Ysz r (fun y hy => h y (List.mem_cons_of_mem _ hy)) (Ydu x o)
  simp only [List.foldl_cons, sumBy]; omega
theorem Y1d2 : ∀ (s : YS) (o : List YS), (Ydu s o).length <= o.length + sizeY s := by
 refine YS.ind fun s ih o => ?_
 have h1 := Ysz s.items ih (Ylq s o)
 have h2 := Yzi s o
 rw [Yw9, Ye6]; omega
abbrev Z1l (s : YS) (o : List YS) : Ct := ⟨43, [.arr true 5 (o.map Ycz)], [Ydl s, .one (.ref 0)], [.dead, .arr true 5 ((Ydu s o).map Ycz)], .sv (.one (.ref 1))⟩
def Z19 (s : YS) (o : List YS) : Lp Nat := .mk 33 1 (fun x => [(1, .one (.ref 1)), (22, ll (s.items.map Ycz)), (23, li (↑(List.map Ycz
 s.items).length : Int)), (24, hs x 0)]) (fun x => [.dead, ho x 1]) (fun k => [.s (li (k : Int)), .o (.arr true 5 ((List.foldl (fun o x => Ydu x o) (Ylq s
 o) (s.items.take k)).map Ycz))]) (fun k => k <= s.items.length /\ s.items.length <= 9223372036854775807) (fun k => s.items.length - k) [.mk True (.exit 0) (fun x => [(1, .one (.ref
 1))]) (fun x => [.dead, ho x 0]) [.o (.arr true 5 ((Ydu s o).map Ycz))]]
theorem Z4s (s : YS) (o : List YS) (h : o.length + sizeY s <= 2147483647 /\ wY s <= 1000000000) (ih : ∀ (z : YS), z ∈ s.items -> ∀ (o : List YS), o.length +
 sizeY z <= 2147483647 /\ wY z <= 1000000000 -> OK (Z1l z o)) : Lp.Sem Tryz.prog (Ydg Tryz.f43 0) (Z19 s o) := Ydr (fun k => .i ((k : Int) < (↑(List.map Ycz
 s.items).length : Int)) (.x (k : Int) (s.items.map Ycz) (Yda (s.items.getD k default)) (.d [.rd, .own true 5] (Z1l (s.items.getD k default) (List.foldl (fun o x
 => Ydu x o) (Ylq s o) (s.items.take k))) (.r ((k : Int) + 1) (.g [0, 4] (k + 1) [.s (li ((k : Int) + 1)), .o (.arr true 5 ((Ydu (s.items.getD k
 default) (List.foldl (fun o x => Ydu x o) (Ylq s o) (s.items.take k))).map Ycz))])))) (.o 0 [0, 1] [.o (.arr true 5 ((List.foldl (fun o x => Ydu x o) (Ylq s o)
 (s.items.take k)).map Ycz))])) (by
 intro k h; try dsimp only [Yd3, Ydb, Z19] at h ⊢
 have g1 := Ysz (s.items.take k) (fun x _ o => Y1d2 x o) (Ylq s o)
 have g2 := Yzi s o
 have g3 := @Yhj s k
 have g4 := Ye6 s
 with_reducible repeat' (first | apply And.intro | exact zR | exact ih | (intro) | apply Zb | apply ih)
 all_goals ((try simp only [std, inj] at *); with_reducible and_intros)
 all_goals try with_reducible first | apply Zb | apply ih
 all_goals try first | exact z | grind [Yw9, Ylv, Yd6, Yd7, Yd8, Yd4])
theorem Zca (s : YS) (o : List YS) (h : o.length + sizeY s <= 2147483647 /\ wY s <= 1000000000) (ih : ∀ z ∈ s.items, ∀ (o : List YS) (h : o.length + sizeY z <=
 2147483647 /\ wY z <= 1000000000), Z1l z o)  : Z1l s o := Yde Tryz.call43 Tryz.func43 (.i (s.kind = 1) (.c [.rd, .rd] (Z3r o s) (.b (!Ydo o s) (.d [.rd] (Z1q s)
 (.p (((o.map Ycz).length + 1) * 80 <= 140737488355328) (.z Ycz s.items (.l (Z19 s o) (Z4s s o h ih) [0, 5] [.s (li 0), .o (.arr true 5 (List.map
 Ycz o ++ [Yda s]))] 0 (.t (.f [1] [.dead, .arr true 5 ((Ydu s o).map Ycz)] (.sv (.one (.ref 1)))) .q))))) (.z Ycz s.items (.w (.ghost (.move 0))
 (.l (Z19 s o) (Z4s s o h ih) [0, 2] [.s (li 0), .o (.arr true 5 (o.map Ycz))] 0 (.t (.f [1] [.dead, .arr true 5 ((Ydu s o).map Ycz)]
 (.sv (.one (.ref 1)))) .q)))))) (.y false (.z Ycz s.items (.w (.ghost (.move 0)) (.l (Z19 s o) (Z4s s o h ih) [0, 2] [.s (li 0), .o (.arr true 5
 (o.map Ycz))] 0 (.t (.f [1] [.dead, .arr true 5 ((Ydu s o).map Ycz)] (.sv (.one (.ref 1)))) .q)))))) (by
 dsimp only [Yd3, Z1l, Ydb, Z19]
 have g4 := Ye6 s
 with_reducible repeat' (first | apply And.intro | exact zR | exact ih | (intro) | apply Zb)
 all_goals ((try simp only [std, inj] at *); with_reducible and_intros)
 all_goals try first | with_reducible (first | apply Zb | apply ih) | (simp only [<- List.map_append]; with_reducible first | apply Zb | apply ih)
 all_goals try first | exact z | grind [Ylq, Yd7, Yd8, Yd4])
theorem Zbs (s : YS) : ∀ (o : List YS) (h : o.length + sizeY s <= 2147483647 /\ wY s <= 1000000000), Z1l s o := YS.ind (P := fun s => ∀ (o : List YS) (h : o.length + sizeY s <= 2147483647 /\ wY s <= 1000000000), Z1l s o) (fun s ih o h => Zca s o h ih) s
def Yt3 (C : List YC) (a : Nat) : List YS -> List YC
 | [] => C
 | x :: r => let O := Yt3 C a r; if 0 <= fnd C x /\ 0 < (C.getD (fnd C x).toNat default).depth then O.set (fnd C x).toNat ((C.getD (fnd C x).toNat default).each.getD a default) else O
def Ys7 (C : List YC) (a : Nat) (I : List YS) (k : Nat) : List YC := Yt3 C a (I.take k).reverse
theorem Y12g (C : List YC) (a : Nat) : ∀ I, (Yt3 C a I).length = C.length
 | [] => rfl
 | x :: r => by simp only [Yt3]; split <;> simp [Y12g C a r]
theorem Yrd (s : YS) : sizeY s <= wY s + 1 := by
 refine YS.ind (P := fun s => sizeY s <= wY s + 1) (fun s ih => ?_) s
 have : ∀ L : List YS, (∀ x ∈ L, sizeY x <= wY x + 1) -> sumBy sizeY L <= L.length + sumBy wY L := by
  intro L
  induction L with
  | nil => intro _; simp [sumBy]
  | cons x r ihr =>
   intro h
   have h1 := h x List.mem_cons_self
   have h2 := ihr fun y hy => h y (List.mem_cons_of_mem _ hy)
   simp only [sumBy, List.length_cons]; omega
 have h1 := this s.items ih
 have h2 := Yfq s
 rw [Ye6]; omega
def Ydw (C : List YC) (x : YS) : YC := C.getD (fnd C x).toNat default
def rep (C : List YC) (x : YS) : Bool := decide (0 <= fnd C x) && decide (0 < (Ydw C x).depth)
def cnN (C : List YC) (I : List YS) : Nat -> Int
 | 0 => -1
 | k + 1 => if rep C (I.getD k default) = true then ((Ydw C (I.getD k default)).each.length : Int) else cnN C I k
def Yu1 (C : List YC) (I : List YS) : Nat -> Bool
 | 0 => true
 | k + 1 => Yu1 C I k && (!rep C (I.getD k default) || decide (cnN C I k < 0) || decide (cnN C I k = ((Ydw C (I.getD k default)).each.length : Int)))
abbrev Z81 (L : List Int) (n : Int) : Ct := ⟨172, [], [ll (L.map Yd2), li n], [], .sv (lb (decide (n ∈ L)))⟩
def Z3q (L : List Int) (n : Int) : Lp Nat := .mk 17 0 (fun x => [(1, li n), (7, ll (L.map Yd2)), (8, li (↑(L.map Yd2).length : Int)), (9, hs x 0)]) (fun x => [])
 (fun k => [.s (li (k : Int))]) (fun k => k <= L.length /\ L.length <= 9223372036854775807 /\ decide (n ∈ L.take k) = false) (fun k => L.length - k) [.mk (decide (n ∈ L) = false)
 (.exit 0) (fun x => []) (fun x => []) [], .mk (decide (n ∈ L) = true) .ret (fun x => [(4, hs x 0)]) (fun x => []) [.s (lb true)]]
theorem Zal (L : List Int) (n : Int) : Lp.Sem Tryz.prog (Ydg Tryz.f172 0) (Z3q L n) := Ydr (fun k => .i ((k : Int) < (↑(L.map Yd2).length : Int)) (.x (↑k :
 Int) (L.map Yd2) [cI (L.getD k 0)] (.i (L.getD k 0 = n) (.o 1 [] [.s (lb true)]) (.r ((k : Int) + 1) (.g [] (k + 1) [.s (li ((k : Int) + 1))])))) (.o 0 [] [])) (by
 intro k h; try dsimp only [Yd3, Ydb, Z3q] at h ⊢
 with_reducible repeat' (first | apply And.intro | exact zR | (intro))
 all_goals ((try simp only [std, inj] at *); with_reducible and_intros)
 all_goals try first | exact z | grind [Ydn, Yd6, Yd7, Yd8, Yd4])
theorem Zco (L : List Int) (n : Int)  : Z81 L n := Yde Tryz.call172 Tryz.func172 (.z Yd2 L (.l (Z3q L n) (Zal L n) [] [.s (li 0)] 0 (.t (.s (lb false)) (.t
 (.s (lb true)) .q)))) (by
 dsimp only [Yd3, Z81, Ydb, Z3q]
 exact zV)
mutual
/-- the places of the captures of more than one form that a template names, each once -/
def rpi (C : List YC) : YS -> List Int -> List Int
 | ⟨k, n, t, s, l⟩, o => Y10q C l (if k = 1 /\ rep C ⟨k, n, t, s, l⟩ = true /\ fnd C ⟨k, n, t, s, l⟩ ∉ o then o ++ [fnd C ⟨k, n, t, s, l⟩] else o)
def Y10q (C : List YC) : List YS -> List Int -> List Int
 | [], o => o
 | x :: r, o => Y10q C r (rpi C x o)
end
theorem Y15i (C : List YC) : ∀ (l : List YS) (o : List Int), Y10q C l o = l.foldl (fun o x => rpi C x o) o
 | [], _ => by rw [Y10q]; rfl
 | x :: r, o => by rw [Y10q, Y15i C r]; rfl
def Ylo (C : List YC) (t : YS) (o : List Int) : List Int := if t.kind = 1 /\ rep C t = true /\ fnd C t ∉ o then o ++ [fnd C t] else o
theorem Y108 (C : List YC) (t : YS) (o : List Int) : rpi C t o = t.items.foldl (fun o x => rpi C x o) (Ylo C t o) := by cases t; simp only [rpi, Y15i, Ylo]
theorem Y12x (C : List YC) (t : YS) (o : List Int) : (Ylo C t o).length <= o.length + 1 := by unfold Ylo; split <;> simp
theorem Yxl (C : List YC) : ∀ (L : List YS), (∀ x ∈ L, ∀ o, (rpi C x o).length <= o.length + sizeY x) -> ∀ o, (L.foldl (fun o x => rpi C x o) o).length <= o.length + sumBy sizeY L
 | [], _, o => by simp [sumBy]
 | x :: r, h, o => by
  have h1 := h x List.mem_cons_self o
  have h2 := Yxl C r (fun y hy => h y (List.mem_cons_of_mem _ hy)) (rpi C x o)
  simp only [List.foldl_cons, sumBy]; omega
theorem Y156 (C : List YC) : ∀ (t : YS) (o : List Int), (rpi C t o).length <= o.length + sizeY t := by
 refine YS.ind fun t ih o => ?_
 have h1 := Yxl C t.items ih (Ylo C t o)
 have h2 := Y12x C t o
 rw [Y108, Ye6]; omega
abbrev Z1m (t : YS) (C : List YC) (o : List Int) : Ct := ⟨107, [.arr true 1 (o.map Yd2)], [Ydl t, ll (C.map Yd0), .one (.ref 0)], [.dead, .arr true 1 ((rpi C t o).map Yd2)], .sv (.one (.ref 1))⟩
def Zv (t : YS) (C : List YC) (o : List Int) : Lp Nat := .mk 46 1 (fun x => [(1, ll (C.map Yd0)), (2, .one (.ref 1)), (34, ll (List.map Ycz
 t.items)), (35, li (↑(t.items.map Ycz).length : Int)), (36, hs x 0)]) (fun x => [.dead, ho x 1]) (fun k => [.s (li (k : Int)), .o (.arr true 1 (List.map Yd2
 (List.foldl (fun o x => rpi C x o) (Ylo C t o) (t.items.take k))))]) (fun k => k <= t.items.length /\ t.items.length <= 9223372036854775807) (fun k => t.items.length - k) [.mk
 True (.exit 0) (fun x => [(2, .one (.ref 1))]) (fun x => [.dead, ho x 0]) [.o (.arr true 1 ((rpi C t o).map Yd2))]]
theorem Z36 (t : YS) (C : List YC) (o : List Int) (h : o.length + sizeY t <= 2147483647) (ih : ∀ (z : YS), z ∈ t.items -> ∀ (C : List YC) (o : List Int),
 o.length + sizeY z <= 2147483647 -> OK (Z1m z C o)) : Lp.Sem Tryz.prog (Ydg Tryz.f107 0) (Zv t C o) := Ydr (fun k => .i ((k : Int) < (↑(List.map Ycz
 t.items).length : Int)) (.x (k : Int) (t.items.map Ycz) (Yda (t.items.getD k default)) (.d [.rd, .rd, .own true 1] (Z1m (t.items.getD k default) C (List.foldl
 (fun o x => rpi C x o) (Ylo C t o) (t.items.take k))) (.r ((k : Int) + 1) (.g [0, 4] (k + 1) [.s (li ((k : Int) + 1)), .o (.arr true 1 ((rpi C
 (t.items.getD k default) (List.foldl (fun o x => rpi C x o) (Ylo C t o) (t.items.take k))).map Yd2))])))) (.o 0 [0, 1] [.o (.arr true 1 ((List.foldl (fun o x => rpi
 C x o) (Ylo C t o) (t.items.take k)).map Yd2))])) (by
 intro k h; try dsimp only [Yd3, Ydb, Zv] at h ⊢
 have g1 := Yxl C (t.items.take k) (fun x _ o => Y156 C x o) (Ylo C t o)
 have g2 := Y12x C t o
 have g3 := @Yhj t k
 with_reducible repeat' (first | apply And.intro | exact zR | exact ih | (intro) | apply ih)
 all_goals ((try simp only [std, inj] at *); with_reducible and_intros)
 all_goals try with_reducible first | apply ih
 all_goals try first | exact z | grind [Y108, Ylv, Yd6, Yd7, Yd8, Yd4])
theorem Zcb (t : YS) (C : List YC) (o : List Int) (h : o.length + sizeY t <= 2147483647) (ih : ∀ z ∈ t.items, ∀ (C : List YC) (o : List Int) (h : o.length + sizeY
 z <= 2147483647), Z1m z C o)  : Z1m t C o := Yde Tryz.call107 Tryz.func107 (.c [.rd, .rd] (Z9x C t) (.i (0 <= if t.kind = 1 then fnd C t else (-1 : Int)) (.x (if t.kind
 = 1 then fnd C t else (-1 : Int)) (C.map Yd0) (Ydj (C.getD (if t.kind = 1 then fnd C t else (-1 : Int)).toNat default)) (.i (0 < (C.getD (if t.kind = 1 then fnd C t
 else (-1 : Int)).toNat default).depth) (.c [.rd, .rd] (Zco o (if t.kind = 1 then fnd C t else (-1 : Int))) (.b (!decide ((if t.kind = 1 then fnd C t else (-1 : Int)) ∈ o)) (.p
 (((o.map Yd2).length + 1) * 8 <= 140737488355328) (.z Ycz t.items (.l (Zv t C o) (Z36 t C o h ih) [0, 3] [.s (li 0), .o (.arr true 1 (o.map Yd2
 ++ [[cI (if t.kind = 1 then fnd C t else (-1 : Int))]]))] 0 (.t (.f [1] [.dead, .arr true 1 ((rpi C t o).map Yd2)] (.sv (.one (.ref 1)))) .q)))) (.z Ycz
 t.items (.w (.ghost (.move 0)) (.l (Zv t C o) (Z36 t C o h ih) [0, 2] [.s (li 0), .o (.arr true 1 (o.map Yd2))] 0 (.t (.f [1] [.dead, .arr true 1
 ((rpi C t o).map Yd2)] (.sv (.one (.ref 1)))) .q)))))) (.y false (.z Ycz t.items (.w (.ghost (.move 0)) (.l (Zv t C o) (Z36 t C o h ih) [0, 2] [.s
 (li 0), .o (.arr true 1 (o.map Yd2))] 0 (.t (.f [1] [.dead, .arr true 1 ((rpi C t o).map Yd2)] (.sv (.one (.ref 1)))) .q))))))) (.y false (.y false (.z
 Ycz t.items (.w (.ghost (.move 0)) (.l (Zv t C o) (Z36 t C o h ih) [0, 2] [.s (li 0), .o (.arr true 1 (o.map Yd2))] 0 (.t (.f [1] [.dead, .arr
 true 1 ((rpi C t o).map Yd2)] (.sv (.one (.ref 1)))) .q)))))))) (by
 dsimp only [Yd3, Z1m, Ydb, Zv]
 have g1 := Yn8 C t
 have g2 := Ye6 t
 have g3 : rep C t = (decide (0 <= fnd C t) && decide (0 < (Ydw C t).depth)) := rfl
 have g4 : Ydw C t = C.getD (fnd C t).toNat default := rfl
 with_reducible repeat' (first | apply And.intro | exact zR | exact ih | (intro))
 all_goals ((try simp only [std, inj] at *); with_reducible and_intros)
 all_goals try first | with_reducible (first | apply ih) | (simp only [<- List.map_append]; with_reducible first | apply ih)
 all_goals try first | exact z | grind [Ylo, Yd7, Yd8, Yd4])
theorem Z14 (t : YS) : ∀ (C : List YC) (o : List Int) (h : o.length + sizeY t <= 2147483647), Z1m t C o := YS.ind (P := fun t => ∀ (C : List YC) (o : List Int) (h : o.length + sizeY t <= 2147483647), Z1m t C o) (fun t ih C o h => Zcb t C o h ih) t
def itr (f : Nat -> Int -> YS × Bool × Int) : Nat -> Int -> List YS -> List YS × Bool × Int
 | 0, m, O => (O, true, m)
 | k + 1, m, O => let p := itr f k m O; if p.2.1 = true then (p.1 ++ [(f k p.2.2).1], (f k p.2.2).2.1, (f k p.2.2).2.2) else p
def zY : YS := ⟨0, 0, mkS [], [], []⟩
mutual
/-- what the reference builds of a template: the form, whether all went well, the nodes that are left -/
def bld : YS -> List YC -> Int -> YS × Bool × Int
  | ⟨k, n, x, s, l⟩, C, m => if m - 1 < 0 then (zY, false, m - 1) else if k = 1 then
      (if Yd5 ⟨k, n, x, s, l⟩ = true ∨ fnd C ⟨k, n, x, s, l⟩ < 0 then (⟨k, n, x, s, l⟩, !Yd5 ⟨k, n, x, s, l⟩, m - 1)
       else if (Ydw C ⟨k, n, x, s, l⟩).depth ≠ 0 then (zY, false, m)
       else if (sizeY (Ydw C ⟨k, n, x, s, l⟩).form : Int) <= m then ((Ydw C ⟨k, n, x, s, l⟩).form, true, max (m - sizeY (Ydw C ⟨k, n, x, s, l⟩).form) (-1))
       else (zY, false, max (m - sizeY (Ydw C ⟨k, n, x, s, l⟩).form) (-1)))
    else if (Yfn l C (m - 1) []).2.1 = true then (⟨k, n, x, [], (Yfn l C (m - 1) []).1⟩, true, (Yfn l C (m - 1) []).2.2) else (zY, false, (Yfn l C (m - 1) []).2.2)
def Yfn : List YS -> List YC -> Int -> List YS -> List YS × Bool × Int
  | [], _, m, O => (O, true, m)
  | [x], C, m, O => if (bld x C m).2.1 = true then (O ++ [(bld x C m).1], true, (bld x C m).2.2) else (O, false, (bld x C m).2.2)
  | x :: y :: r, C, m, O => if Yd5 y = true then
      (if (Yu1 C (Ydu x []) (Ydu x []).length && decide (0 <= cnN C (Ydu x []) (Ydu x []).length)) = true then
        (if (itr (fun j m => bld x (Ys7 C j (Ydu x []) (Ydu x []).length) m) (cnN C (Ydu x []) (Ydu x []).length).toNat m O).2.1 = true then
          Yfn r C (itr (fun j m => bld x (Ys7 C j (Ydu x []) (Ydu x []).length) m) (cnN C (Ydu x []) (Ydu x []).length).toNat m O).2.2 (itr (fun j m => bld x (Ys7 C j (Ydu x []) (Ydu x []).length) m) (cnN C (Ydu x []) (Ydu x []).length).toNat m O).1
         else itr (fun j m => bld x (Ys7 C j (Ydu x []) (Ydu x []).length) m) (cnN C (Ydu x []) (Ydu x []).length).toNat m O)
       else (O, false, m))
    else if (bld x C m).2.1 = true then Yfn (y :: r) C (bld x C m).2.2 (O ++ [(bld x C m).1]) else (O, false, (bld x C m).2.2)
end
end Go.Proofs.YtclpofblehlojaaGreat
end
