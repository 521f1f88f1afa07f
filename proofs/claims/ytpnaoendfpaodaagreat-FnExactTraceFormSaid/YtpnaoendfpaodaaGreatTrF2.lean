/- Part 2 of a proof. No condition. -/
import Derived.Test.YtpnaoendfpaodaaGreatTrF1
set_option linter.unusedVariables false
set_option linter.unusedSimpArgs false
section
namespace Go.Proofs.YtpnaoendfpaodaaGreat
open Go Ab
set_option maxHeartbeats 4000000
def Y1fi (k : Int) : Int := if k = 1 then 11 else if k = 2 then 13 else if k = 3 then 99999 else if k = 4 then 99999 else -1
def Yns (b : YB) : Bool := Ym3 b.text && Yk8 b.scopes && decide (0 <= b.number /\ b.number <= Y1fi b.kind)
abbrev Z9y (b : YB) : Ct := ⟨178, [], [Ym5 b], [], .sv (lb (Yns b))⟩
theorem Z9i (b : YB)  : Z9y b := Yhq Tryz.call178 Tryz.func178 (.i (b.kind = 1) (.c [] Zck (.h (12 <= 9223372036854775807) (.r 11 (.c [.rd] (Z1r
 b.text) (.b (Ym3 b.text) (.c [.rd] (Z3e b.scopes) (.b (Yk8 b.scopes) (.c [.rd, .rd, .rd] (Z1g b.number 0 11) (.s (lb (decide (0 <= b.number /\ b.number <= 11))))) (.s (lb
 false)))) (.y false (.s (lb false)))))))) (.i (b.kind = 2) (.c [] Z94 (.h (14 <= 9223372036854775807) (.r 13 (.c [.rd] (Z1r b.text) (.b (Ym3 b.text) (.c
 [.rd] (Z3e b.scopes) (.b (Yk8 b.scopes) (.c [.rd, .rd, .rd] (Z1g b.number 0 13) (.s (lb (decide (0 <= b.number /\ b.number <= 13))))) (.s (lb false)))) (.y false (.s (lb
 false)))))))) (.i (b.kind = 3) (.y true (.c [.rd] (Z1r b.text) (.b (Ym3 b.text) (.c [.rd] (Z3e b.scopes) (.b (Yk8 b.scopes) (.c [.rd, .rd, .rd] (Z1g b.number 0
 99999) (.s (lb (decide (0 <= b.number /\ b.number <= 99999))))) (.s (lb false)))) (.y false (.s (lb false)))))) (.i (b.kind = 4) (.c [.rd] (Z1r b.text) (.b (Ym3 b.text) (.c
 [.rd] (Z3e b.scopes) (.b (Yk8 b.scopes) (.c [.rd, .rd, .rd] (Z1g b.number 0 99999) (.s (lb (decide (0 <= b.number /\ b.number <= 99999))))) (.s (lb false)))) (.y false (.s
 (lb false))))) (.c [.rd] (Z1r b.text) (.b (Ym3 b.text) (.c [.rd] (Z3e b.scopes) (.b (Yk8 b.scopes) (.c [.rd, .rd, .rd] (Z1g b.number 0 (-1 : Int)) (.s (lb
 (decide (0 <= b.number /\ b.number <= (-1 : Int)))))) (.s (lb false)))) (.y false (.s (lb false))))))))) (by
 dsimp only [Yhf, Z9y]
 have e1 : Yrj.length = 12 := rfl
 have e2 : Yrc.length = 14 := rfl
 with_reducible repeat' (first | apply And.intro | exact zR | (intro) | apply mIc | apply mOc | apply mSc | apply mLc)
 all_goals ((try simp only [std, inj] at *); with_reducible and_intros)
 all_goals try first | exact z | exact zM | grind [Yns, Y1fi, Yhi, Yhh, Yhe])
abbrev Z9z (b : YB) : Ct := ⟨186, [], [Ym5 b], [], .sv (lb (Yns b))⟩
theorem Zgn (b : YB)  : Z9z b := Yhq Tryz.call186 Tryz.func186 (.c [.rd] (Z48 b.text) (.b (!Ym3 b.text) (.y true (.y true (.s (lb false)))) (.c [.rd]
 (Z1i b.scopes) (.b (!Yk8 b.scopes) (.y true (.s (lb false))) (.i (b.number < 0) (.s (lb false)) (.i (b.kind = 1) (.w (.draw []) (.c [] Zcl (.h (12 <=
 9223372036854775807) (.s (lb (decide (b.number < 12))))))) (.i (b.kind = 2) (.w (.draw []) (.c [] Z95 (.h (14 <= 9223372036854775807) (.s (lb (decide (b.number <
 14))))))) (.i (b.kind = 3) (.y true (.s (lb (decide (b.number <= 99999))))) (.i (b.kind = 4) (.s (lb (decide (b.number <= 99999)))) (.s (lb false))))))))))) (by
 dsimp only [Yhf, Z9z]
 have e1 : Yrj.length = 12 := rfl
 have e2 : Yrc.length = 14 := rfl
 with_reducible repeat' (first | apply And.intro | exact zR | (intro) | apply mIc | apply mOc | apply mSc | apply mLc | apply Z48 | apply Z1i)
 all_goals ((try simp only [std, inj] at *); with_reducible and_intros)
 all_goals try with_reducible first | apply Z48 | apply Z1i
 all_goals try first | exact z | exact zM | grind [Yns, Y1fi, Yhi, Yhh, Yhe])
def clB (t : ByteArray) (s : List Int) (x : YB) : Bool := decide (x.text = t) && decide (x.scopes = s)
def Ymv (L : List YB) (t : ByteArray) (s : List Int) : Bool := L.any (clB t s)
abbrev Z7i (L : List YB) (b : YB) : Ct := ⟨179, [], [ll (L.map Yhc), Ym5 b], [], .sv (lb (Ymv L b.text b.scopes))⟩
def Z4c (L : List YB) (b : YB) : Lp Nat := .mk 26 0 (fun x => [(3, .one (.ptr 0 0)), (7, ll (L.map Yhc)), (8, li (↑(L.map Yhc).length :
 Int)), (9, hs x 0)]) (fun x => [.box (vals (Yhx b))]) (fun k => [.s (li (k : Int))]) (fun k => k <= L.length /\ L.length <= 9223372036854775807 /\ Ymv (L.take k) b.text
 b.scopes = false) (fun k => L.length - k) [.mk (Ymv L b.text b.scopes = false) (.exit 0) (fun x => []) (fun x => []) [], .mk (Ymv L b.text b.scopes = true) .ret (fun x => [(4,
 hs x 0)]) (fun x => []) [.s (lb true)]]
theorem Zdg (L : List YB) (b : YB) : Lp.Sem Tryz.prog (Yhp Tryz.f179 0) (Z4c L b) := Yhz (fun k => .i ((k : Int) < (↑(L.map Yhc).length :
 Int)) (.x (k : Int) (L.map Yhc) (Yhx (L.getD k default)) (.i ((L.getD k default).text.data.toList = b.text.data.toList) (.c [.rd, .rd] (Z9b (L.getD k
 default).scopes b.scopes) (.i ((L.getD k default).scopes = b.scopes) (.o 1 [] [.s (lb true)]) (.r ((k : Int) + 1) (.g [0] (k + 1) [.s (li ((k : Int) + 1))])))) (.y false (.r
 ((k : Int) + 1) (.g [0] (k + 1) [.s (li ((k : Int) + 1))]))))) (.o 0 [] [])) (by
 intro k h; try dsimp only [Yhf, Yhl, Z4c] at h ⊢
 with_reducible repeat' (first | apply And.intro | exact zR | (intro) | apply mIc | apply mOc | apply mSc | apply mLc)
 all_goals ((try simp only [std, inj] at *); with_reducible and_intros)
 all_goals try first | exact z | exact zM | grind [Yhy, Ymv, clB, Yhj, Ykg, Yhi, Yhh, Yhe])
theorem Zcm (L : List YB) (b : YB)  : Z7i L b := Yhq Tryz.call179 Tryz.func179 (.z Yhc L (.l (Z4c L b) (Zdg L b) [0] [.s (li 0)] 0 (.t (.s
 (lb false)) (.t (.s (lb true)) .q)))) (by
 dsimp only [Yhf, Z7i, Yhl, Z4c]
 with_reducible repeat' (first | apply And.intro | exact zR | (intro) | apply mIc | apply mOc | apply mSc | apply mLc)
 all_goals ((try simp only [std, inj] at *); with_reducible and_intros)
 all_goals try first | exact z | exact zM | grind [Ymv, Yhi, Yhh, Yhe])
def Ykb (L : List YB) : Nat -> Bool
 | 0 => true
 | k + 1 => Ykb L k && (Yns (L.getD k default) && !Ymv (L.take k) (L.getD k default).text (L.getD k default).scopes)
theorem Yqk (L : List YB) : ∀ (m k : Nat), k <= m -> Ykb L m = true -> Ykb L k = true
 | 0, k, h, _ => by
  obtain rfl : k = 0 := by omega
  rfl
 | m + 1, k, h, ht => by
  by_cases e : k = m + 1
  ·rw [e]; exact ht
  ·refine Yqk L m k (by omega) ?_
   simp only [Ykb, Bool.and_eq_true] at ht; exact ht.1
def Yrw (L : List YB) : Bool := Ykb L L.length && decide ((L.length : Int) <= 1000)
abbrev Zcn (L : List YB) : Ct := ⟨104, [], [ll (L.map Yhc)], [], .sv (lb (Yrw L))⟩
def Z6c (L : List YB) : Lp Nat := .mk 26 0 (fun x => [(0, ll (L.map Yhc)), (5, ll (L.map Yhc)), (6, li (↑(L.map Yhc).length : Int)), (7, hs
 x 0)]) (fun x => []) (fun k => [.s (li (k : Int))]) (fun k => k <= L.length /\ L.length <= 9223372036854775807 /\ Ykb L k = true) (fun k => L.length - k) [.mk (Ykb L L.length =
 true) (.exit 0) (fun x => [(0, ll (L.map Yhc))]) (fun x => []) [], .mk (Ykb L L.length = false) .ret (fun x => [(2, hs x 0)]) (fun x => []) [.s (lb false)]]
theorem Zfl (L : List YB) : Lp.Sem Tryz.prog (Yhp Tryz.f104 0) (Z6c L) := Yhz (fun k => .i ((k : Int) < (↑(L.map Yhc).length : Int)) (.x (k : Int)
 (L.map Yhc) (Yhx (L.getD k default)) (.w (.draw []) (.c [.rd] (Z9i (L.getD k default)) (.b (!Yns (L.getD k default)) (.y true (.o 1 [] [.s (lb false)])) (.p
 (0 <= (k : Int)) (.p (0 <= (k : Int).toNat /\ (k : Int).toNat <= (L.map Yhc).length /\ ∀ (e : List Cell), e ∈ L.map Yhc -> e.length = 4) (.u [.rd, .rd]
 (Z7i (List.take ((k : Int).toNat - 0) (L.drop 0)) (L.getD k default)) (.p (Yky Tryz.prog 179 [] [ll (List.take ((k : Int).toNat - 0) (List.drop 0 (List.map
 Yhc L))), SV.agg (vals (Yhx (L.getD k default)))] [] (AV.sv (lb (Ymv (List.take ((k : Int).toNat - 0) (L.drop 0)) (L.getD k default).text (L.getD k
 default).scopes)))) (.b (Ymv (List.take ((k : Int).toNat - 0) (L.drop 0)) (L.getD k default).text (L.getD k default).scopes) (.o 1 [] [.s (lb false)]) (.r ((k : Int) + 1)
 (.g [] (k + 1) [.s (li ((k : Int) + 1))]))))))))))) (.o 0 [] [])) (by
 intro k h; try dsimp only [Yhf, Yhl, Z6c] at h ⊢
 have g1 := Yqk L L.length (k + 1)
 have g2 : Ykb L (k + 1) = (Ykb L k && (Yns (L.getD k default) && !Ymv (L.take k) (L.getD k default).text (L.getD k default).scopes)) := rfl
 with_reducible repeat' (first | apply And.intro | exact zR | (intro) | apply mIc | apply mOc | apply mSc | apply mLc | apply Z9i | apply Zcm)
 all_goals ((try simp only [std, inj] at *); with_reducible and_intros)
 all_goals try with_reducible first | apply Z9i | apply Zcm
 all_goals try first | exact z | exact zM | grind [Yhj, Yhi, Yhh, Yhe])
theorem Zh6 (L : List YB)  : Zcn L := Yhq Tryz.call104 Tryz.func104 (.z Yhc L (.l (Z6c L) (Zfl L) [] [.s (li 0)] 0 (.t (.z Yhc L (.s (lb (decide
 ((↑(L.map Yhc).length : Int) <= 1000))))) (.t (.s (lb false)) .q)))) (by
 dsimp only [Yhf, Zcn, Yhl, Z6c]
 with_reducible repeat' (first | apply And.intro | exact zR | (intro) | apply mIc | apply mOc | apply mSc | apply mLc)
 all_goals ((try simp only [std, inj] at *); with_reducible and_intros)
 all_goals try first | exact z | exact zM | grind [Yrw, Ykb, Yhi, Yhh, Yhe])
def plc (L : List YB) : Nat -> ByteArray -> List Int
 | 0, _ => []
 | k + 1, s => if s = (L.getD k default).text then plc L k s ++ [(k : Int)] else plc L k s
theorem Y1gw {L : List YB} {k : Nat} : Ypr (plc L k) (L.getD k default).text (plc L k (L.getD k default).text ++ [(k : Int)]) = plc L (k + 1) := by
 funext s; simp only [Ypr, plc]; split
 ·rename_i h; rw [h]
 ·rfl
theorem Y1g0 {L : List YB} : zL = plc L 0 := rfl
theorem Y182 (L : List YB) (s : ByteArray) : ∀ k, (plc L k s).length <= k
 | 0 => Nat.le_refl _
 | k + 1 => by
  have := Y182 L s k
  simp only [plc]; split
  ·simp; omega
  ·omega
theorem Yvb (L : List YB) (s : ByteArray) : ∀ k (i : Int), i ∈ plc L k s ↔ (0 <= i /\ i < k /\ (L.getD i.toNat default).text = s)
 | 0, i => by simp [plc]; omega
 | k + 1, i => by
  have ih := Yvb L s k i
  simp only [plc]; split
  ·rename_i h
   rw [List.mem_append, ih, List.mem_singleton]
   constructor
   ·rintro (⟨a, b, c⟩ | rfl)
    ·exact ⟨a, by omega, c⟩
    ·exact ⟨by omega, by omega, by rw [Int.toNat_natCast]; exact h.symm⟩
   ·rintro ⟨a, b, c⟩
    by_cases e : i = k
    ·exact .inr e
    ·exact .inl ⟨a, by omega, c⟩
  ·rename_i h
   rw [ih]
   constructor
   ·rintro ⟨a, b, c⟩; exact ⟨a, by omega, c⟩
   ·rintro ⟨a, b, c⟩
    refine ⟨a, ?_, c⟩
    by_cases e : i = k
    ·subst e; rw [Int.toNat_natCast] at c; exact absurd c.symm h
    ·omega
def Ytm (L : List YB) (s : List Int) (P : List Int) : Bool := P.all fun i => !decide ((L.getD i.toNat default).scopes = s)
theorem Y19z {L : List YB} {k : Nat} {t : ByteArray} {s : List Int} (hk : k <= L.length) : Ytm L s (plc L k t) = !Ymv (L.take k) t s := by
 rw [Bool.eq_iff_iff]
 simp only [Ytm, Ymv, clB, List.all_eq_true, Bool.not_eq_true', decide_eq_false_iff_not, List.any_eq_false, Bool.and_eq_true, decide_eq_true_eq, not_and]
 constructor
 ·intro h x hx e
  obtain ⟨j, hj, rfl⟩ := List.getElem_of_mem hx
  rw [List.length_take] at hj
  have e2 : (L.take k)[j]'(by rw [List.length_take]; exact hj) = L.getD j default := by simp [show j < L.length by omega]
  rw [e2] at e ⊢
  have := h (j : Int) ((Yvb L t k j).2 ⟨by omega, by omega, by rw [Int.toNat_natCast]; exact e⟩)
  rwa [Int.toNat_natCast] at this
 ·intro h i hi
  obtain ⟨a, b, c⟩ := (Yvb L t k i).1 hi
  refine h _ ?_ c
  have e : L.getD i.toNat default = (L.take k)[i.toNat]'(by rw [List.length_take]; omega) := by simp [show i.toNat < L.length by omega]
  rw [e]; exact List.getElem_mem _
theorem Y1gq {L : List YB} {s : List Int} {P : List Int} {j : Nat} (h : j < P.length) (e : (L.getD (P.getD j default).toNat default).scopes = s) : Ytm L s P = false := by
 unfold Ytm; rw [List.all_eq_false]; exact ⟨_, Yhj h, by rw [decide_eq_true e]; decide⟩
theorem Y1b9 {L : List YB} {s : List Int} {P : List Int} {j : Nat} (h : j < P.length) (h0 : Ytm L s (P.take j) = true) (e : (L.getD (P.getD j default).toNat default).scopes ≠ s) : Ytm L s (P.take (j + 1)) = true := by
 unfold Ytm at *; rw [Yhy h, List.all_append, h0]; simpa using e
abbrev Zco (L : List YB) : Ct := ⟨108, [], [ll (L.map Yhc)], [], .sv (lb (Yrw L))⟩
def Z6d (L : List YB) (k : Nat) : Lp Nat := .mk 51 0 (fun x => [(0, ll (L.map Yhc)), (3, .one (.mref 0)), (4, li (k : Int)), (5, .one (.ptr 1 0)),
 (12, ll (L.map Yhc)), (13, li (↑(L.map Yhc).length : Int)), (14, li (k : Int)), (25, .one (.bor 0 (.list ((plc L k (L.getD k
 default).text).map Yhd)))), (26, li (↑((plc L k (L.getD k default).text).map Yhd).length : Int)), (27, hs x 0)]) (fun x => [.map false kL (mL (plc L k)), .box (vals (Yhx
 (L.getD k default)))]) (fun k1 => [.s (li (k1 : Int))]) (fun k1 => k1 <= (plc L k (L.getD k default).text).length /\ (plc L k (L.getD k default).text).length <= 9223372036854775807
 /\ k < L.length /\ Ykb L k = true /\ Yns (L.getD k default) = true /\ Ytm L (L.getD k default).scopes (List.take k1 (plc L k (L.getD k default).text)) = true) (fun k1 => (plc L k
 (L.getD k default).text).length - k1) [.mk (Ykb L (k + 1) = true) (.exit 2) (fun x => [(0, ll (L.map Yhc)), (3, .one (.mref 0)), (4, li (k : Int)), (5, .one
 (.ptr 1 0)), (12, ll (L.map Yhc)), (13, li (↑(L.map Yhc).length : Int)), (14, li (k : Int))]) (fun x => [.map false kL (mL (plc L k)), .box (vals
 (Yhx (L.getD k default)))]) [], .mk (Ykb L L.length = false) .ret (fun x => [(2, hs x 0)]) (fun x => []) [.s (lb false)]]
def Z6e (L : List YB) : Lp Nat := .mk 51 0 (fun x => [(0, ll (L.map Yhc)), (3, .one (.mref 0)), (12, ll (L.map Yhc)), (13, li (↑(List.map
 Yhc L).length : Int)), (14, hs x 0)]) (fun x => [ho x 1]) (fun k => [.s (li (k : Int)), .o (.map false kL (mL (plc L k)))]) (fun k => k <= L.length /\ L.length <=
 9223372036854775807 /\ L.length <= 1000 /\ Ykb L k = true) (fun k => L.length - k) [.mk (Ykb L L.length = true) (.exit 0) (fun x => []) (fun x => []) [], .mk (Ykb L L.length =
 false) .ret (fun x => [(2, hs x 0)]) (fun x => []) [.s (lb false)]]
theorem Zfm (L : List YB) (k : Nat) : Lp.Sem Tryz.prog (Yhp Tryz.f108 1) (Z6d L k) := Yhz (fun k1 => .i ((k1 : Int) < (↑((plc L k (L.getD k
 default).text).map Yhd).length : Int)) (.x (k1 : Int) ((plc L k (L.getD k default).text).map Yhd) [cI ((plc L k (L.getD k default).text).getD k1 0)] (.w (.draw []) (.x ((plc L k
 (L.getD k default).text).getD k1 0) (L.map Yhc) (Yhx (L.getD ((plc L k (L.getD k default).text).getD k1 0).toNat default)) (.c [.rd, .rd] (Z9c (L.getD ((plc
 L k (L.getD k default).text).getD k1 0).toNat default).scopes (L.getD k default).scopes) (.i ((L.getD ((plc L k (L.getD k default).text).getD k1 0).toNat default).scopes = (L.getD
 k default).scopes) (.o 1 [] [.s (lb false)]) (.r ((k1 : Int) + 1) (.g [0, 1] (k1 + 1) [.s (li ((k1 : Int) + 1))]))))))) (.o 0 [0, 1] [])) (by
 intro k1 h; try dsimp only [Yhf, Yhl, Z6d] at h ⊢
 have g1 := Yqk L L.length (k + 1)
 have g2 : Ykb L (k + 1) = (Ykb L k && (Yns (L.getD k default) && !Ymv (L.take k) (L.getD k default).text (L.getD k default).scopes)) := rfl
 have g3 := @Y19z L k (L.getD k default).text (L.getD k default).scopes
 have g4 := @Y1gq L (L.getD k default).scopes (plc L k (L.getD k default).text) k1
 have g5 := @Y1b9 L (L.getD k default).scopes (plc L k (L.getD k default).text) k1
 have g6 := Yvb L (L.getD k default).text k ((plc L k (L.getD k default).text).getD k1 default)
 have g7 : ∀ j, (plc L k (L.getD k default).text).length <= j -> (plc L k (L.getD k default).text).take j = plc L k (L.getD k default).text := fun j h => List.take_of_length_le h
 with_reducible repeat' (first | apply And.intro | exact zR | (intro) | apply mIc | apply mOc | apply mSc | apply mLc)
 all_goals ((try simp only [std, inj] at *); with_reducible and_intros)
 all_goals try first | exact z | exact zM | grind [Yhj, Yhi, Yhh, Yhe])
theorem Zfn (L : List YB) : Lp.Sem Tryz.prog (Yhp Tryz.f108 0) (Z6e L) := Yhz (fun k => .i ((k : Int) < (↑(L.map Yhc).length : Int)) (.x (k : Int)
 (L.map Yhc) (Yhx (L.getD k default)) (.c [.rd] (Zgn (L.getD k default)) (.b (!Yns (L.getD k default)) (.o 1 [] [.s (lb false)]) (.w (.cells [.list
 ((plc L k (L.getD k default).text).map Yhd)]) (.p (Ypk (Value.slice none 0 0) (mL (plc L k)) (Value.string (L.getD k default).text) (Cell.list ((plc L k
 (L.getD k default).text).map Yhd))) (.z Yhd (plc L k (L.getD k default).text) (.l (Z6d L k) (Zfm L k) [0, 1] [.s (li 0)] 0 (.t (.w (.draw [(6, [0]), (9, [2, 3]), (10, [4,
 0])]) (.w (.taken ((plc L k (L.getD k default).text).map Yhd) 1 (mLt (plc L k) (L.getD k default).text)) (.p (Ypk (Value.slice none 0 0) (mL (plc L k)) (Value.string
 (L.getD k default).text) (Cell.list ((plc L k (L.getD k default).text).map Yhd))) (.p (Ync kL.d (mL (plc L k)) (mLt (plc L k) (L.getD k default).text) (Value.string (L.getD
 k default).text) (some Cell.any)) (.p (some (Value.slice none 0 0) = some (Value.slice none 0 0)) (.p (∀ (x : List Cell), x ∈ (plc L k (L.getD k default).text).map Yhd ->
 x.length = 1) (.p ((((plc L k (L.getD k default).text).map Yhd).length + 1) * 8 <= 140737488355328) (.w (.upd (mL (Ypr (plc L k) (L.getD k default).text (plc L k (L.getD k
 default).text ++ [(k : Int)])))) (.p (false = false) (.p (Ync kL.d (mLt (plc L k) (L.getD k default).text) (mL (Ypr (plc L k) (L.getD k default).text (plc L k (L.getD k
 default).text ++ [(k : Int)]))) (Value.string (L.getD k default).text) (some (Cell.list ((plc L k (L.getD k default).text).map Yhd ++ [[cI (k : Int)]])))) (.r ((k : Int)
 + 1) (.g [0] (k + 1) [.s (li ((k : Int) + 1)), .o (.map false kL (mL (Ypr (plc L k) (L.getD k default).text (plc L k (L.getD k default).text ++ [(k : Int)]))))]))))))))))))
 (.t (.o 1 [] [.s (lb false)]) .q))))))))) (.o 0 [] [])) (by
 intro k h; try dsimp only [Yhf, Yhl, Z6e, Z6d] at h ⊢
 have g1 := Yqk L L.length (k + 1)
 have g2 : Ykb L (k + 1) = (Ykb L k && (Yns (L.getD k default) && !Ymv (L.take k) (L.getD k default).text (L.getD k default).scopes)) := rfl
 have g3 := Y182 L (L.getD k default).text k
 have g4 := @Y1gw L k
 have g5 : Ytm L (L.getD k default).scopes ((plc L k (L.getD k default).text).take 0) = true := rfl
 with_reducible repeat' (first | apply And.intro | exact zR | (intro) | apply mIc | apply mOc | apply mSc | apply mLc)
 all_goals ((try simp only [std, inj] at *); with_reducible and_intros)
 all_goals try first | exact z | exact zM | grind [Yhj, Yhi, Yhh, Yhe]
 all_goals (try (exact Y1bf (by simp [Yhd]))))
theorem Zh7 (L : List YB)  : Zco L := Yhq Tryz.call108 Tryz.func108 (.z Yhc L (.i (1000 < (↑(L.map Yhc).length : Int)) (.s (lb false)) (.w (.mkmap kL)
 (.z Yhc L (.l (Z6e L) (Zfn L) [0] [.s (li 0), .o (.map false kL (mL zL))] 0 (.t (.s (lb true)) (.t (.s (lb false)) .q))))))) (by
 dsimp only [Yhf, Zco, Yhl, Z6e]
 with_reducible repeat' (first | apply And.intro | exact zR | (intro) | apply mIc | apply mOc | apply mSc | apply mLc)
 all_goals ((try simp only [std, inj] at *); with_reducible and_intros)
 all_goals try first | exact z | exact zM | grind [Yrw, Ykb, Y1g0, Yhi, Yhh, Yhe])
mutual
/-- is no scope greater than a number? -/
def blw (n : Int) : YS -> Bool
 | ⟨_, _, _, s, l⟩ => s.all (fun x => decide (x <= n)) && Y130 n l
def Y130 (n : Int) : List YS -> Bool
 | [] => true
 | x :: r => blw n x && Y130 n r
end
theorem Y17v (n : Int) : ∀ l, Y130 n l = l.all (blw n)
 | [] => by simp [Y130]
 | x :: r => by rw [Y130, Y17v n r]; rfl
def scB (n : Int) (L : List Int) : Bool := L.all fun x => decide (x <= n)
theorem Yxo (n : Int) (s : YS) : blw n s = (scB n s.scopes && s.items.all (blw n)) := by cases s; simp only [blw, Y17v, scB]
theorem Y13t {n : Int} {L : List Int} {k : Nat} (h : k < L.length) (e : n < L.getD k 0) : scB n L = false := by
 unfold scB; rw [List.all_eq_false]; exact ⟨L.getD k 0, Yhj h, by rw [decide_eq_false (by omega)]; decide⟩
abbrev Z17 (s : YS) (n : Int) : Ct := ⟨117, [], [Yhu s, li n], [], .sv (lb (blw n s))⟩
def Z2u (s : YS) (n : Int) : Lp Nat := .mk 32 0 (fun x => [(1, li n), (21, ll (s.items.map Yh9)), (22, li (↑(s.items.map Yh9).length : Int)), (23,
 hs x 0)]) (fun x => []) (fun k => [.s (li (k : Int))]) (fun k => k <= s.items.length /\ s.items.length <= 9223372036854775807 /\ (s.items.take k).all (blw n) = true) (fun k =>
 s.items.length - k) [.mk (s.items.all (blw n) = true) (.exit 2) (fun x => []) (fun x => []) [], .mk (s.items.all (blw n) = false) .ret (fun x => [(4, hs x 0)]) (fun x => []) [.s
 (lb false)]]
def Z2v (s : YS) (n : Int) : Lp Nat := .mk 32 0 (fun x => [(1, li n), (2, .one (.ptr 0 0)), (10, ll (s.scopes.map Yhd)), (11, li (↑(List.map Yhd
 s.scopes).length : Int)), (12, hs x 0)]) (fun x => [.box (vals (Yhg s))]) (fun k => [.s (li (k : Int))]) (fun k => k <= s.scopes.length /\ s.scopes.length <=
 9223372036854775807 /\ scB n (s.scopes.take k) = true) (fun k => s.scopes.length - k) [.mk (scB n s.scopes = true) (.exit 0) (fun x => [(1, li n), (2, .one (.ptr 0 0))])
 (fun x => [.box (vals (Yhg s))]) [], .mk (blw n s = false) .ret (fun x => [(4, hs x 0)]) (fun x => []) [.s (lb false)]]
theorem Zbo (s : YS) (n : Int) (ih : ∀ (z : YS), z ∈ s.items -> ∀ (n : Int), OK (Z17 z n)) : Lp.Sem Tryz.prog (Yhp Tryz.f117 1) (Z2u s n) :=
 Yhz (fun k => .i ((k : Int) < (↑(List.map Yh9 s.items).length : Int)) (.x (k : Int) (List.map Yh9 s.items) (Yhg (s.items.getD k default)) (.d [.rd, .rd] (Z17
 (s.items.getD k default) n) (.b (!blw n (s.items.getD k default)) (.o 1 [] [.s (lb false)]) (.r ((k : Int) + 1) (.g [] (k + 1) [.s (li ((k : Int) + 1))]))))) (.o 0 [] [])) (by
 intro k h; try dsimp only [Yhf, Yhl, Z2u] at h ⊢
 with_reducible repeat' (first | apply And.intro | exact zR | exact ih | (intro) | apply mIc | apply mOc | apply mSc | apply mLc | apply ih)
 all_goals ((try simp only [std, inj] at *); with_reducible and_intros)
 all_goals try with_reducible first | apply ih
 all_goals try first | exact z | exact zM | grind [Yhy, Yhj, Yhi, Yhh, Yhe])
theorem Zbp (s : YS) (n : Int) (ih : ∀ (z : YS), z ∈ s.items -> ∀ (n : Int), OK (Z17 z n)) : Lp.Sem Tryz.prog (Yhp Tryz.f117 0) (Z2v s n) :=
 Yhz (fun k => .i ((k : Int) < (↑(List.map Yhd s.scopes).length : Int)) (.x (k : Int) (List.map Yhd s.scopes) [cI (s.scopes.getD k 0)] (.i (n < s.scopes.getD k 0) (.o 1 [] [.s
 (lb false)]) (.r ((k : Int) + 1) (.g [0] (k + 1) [.s (li ((k : Int) + 1))])))) (.o 0 [0] [])) (by
 intro k h; try dsimp only [Yhf, Yhl, Z2v] at h ⊢
 have g1 := Yxo n s
 have g2 := @Y13t n s.scopes k
 with_reducible repeat' (first | apply And.intro | exact zR | exact ih | (intro) | apply mIc | apply mOc | apply mSc | apply mLc | apply ih)
 all_goals ((try simp only [std, inj] at *); with_reducible and_intros)
 all_goals try with_reducible first | apply ih
 all_goals try first | exact z | exact zM | grind [Yhy, Yhj, scB, Yhi, Yhh, Yhe])
theorem Zeo (s : YS) (n : Int) (ih : ∀ z ∈ s.items, ∀ (n : Int), Z17 z n)  : Z17 s n := Yhq Tryz.call117 Tryz.func117 (.z Yhd s.scopes (.l (Z2v s
 n) (Zbp s n ih) [0] [.s (li 0)] 0 (.t (.z Yh9 s.items (.l (Z2u s n) (Zbo s n ih) [] [.s (li 0)] 0 (.t (.s (lb true)) (.t (.s (lb false)) .q))))
 (.t (.s (lb false)) .q)))) (by
 dsimp only [Yhf, Z17, Yhl, Z2v, Z2u]
 have g1 := Yxo n s
 with_reducible repeat' (first | apply And.intro | exact zR | exact ih | (intro) | apply mIc | apply mOc | apply mSc | apply mLc)
 all_goals ((try simp only [std, inj] at *); with_reducible and_intros)
 all_goals try with_reducible first | apply ih
 all_goals try first | exact z | exact zM | grind [scB, Yhi, Yhh, Yhe])
theorem Zcp (s : YS) : ∀ (n : Int), Z17 s n := YS.ind (P := fun s => ∀ (n : Int), Z17 s n) (fun s ih n => Zeo s n ih) s
abbrev Z18 (s : YS) (n : Int) : Ct := ⟨73, [], [Yhu s, li n], [], .sv (lb (blw n s))⟩
def Z2w (s : YS) (n : Int) : Lp Nat := .mk 32 0 (fun x => [(1, li n), (21, ll (s.items.map Yh9)), (22, li (↑(s.items.map Yh9).length : Int)), (23,
 hs x 0)]) (fun x => []) (fun k => [.s (li (k : Int))]) (fun k => k <= s.items.length /\ s.items.length <= 9223372036854775807 /\ (s.items.take k).all (blw n) = true) (fun k =>
 s.items.length - k) [.mk (s.items.all (blw n) = true) (.exit 2) (fun x => []) (fun x => []) [], .mk (s.items.all (blw n) = false) .ret (fun x => [(4, hs x 0)]) (fun x => []) [.s
 (lb false)]]
def Z2x (s : YS) (n : Int) : Lp Nat := .mk 32 0 (fun x => [(1, li n), (2, .one (.ptr 0 0)), (10, ll (s.scopes.map Yhd)), (11, li (↑(List.map Yhd
 s.scopes).length : Int)), (12, hs x 0)]) (fun x => [.box (vals (Yhg s))]) (fun k => [.s (li (k : Int))]) (fun k => k <= s.scopes.length /\ s.scopes.length <=
 9223372036854775807 /\ scB n (s.scopes.take k) = true) (fun k => s.scopes.length - k) [.mk (scB n s.scopes = true) (.exit 0) (fun x => [(1, li n), (2, .one (.ptr 0 0))])
 (fun x => [.box (vals (Yhg s))]) [], .mk (blw n s = false) .ret (fun x => [(4, hs x 0)]) (fun x => []) [.s (lb false)]]
theorem Zbq (s : YS) (n : Int) (ih : ∀ (z : YS), z ∈ s.items -> ∀ (n : Int), OK (Z18 z n)) : Lp.Sem Tryz.prog (Yhp Tryz.f73 1) (Z2w s n) :=
 Yhz (fun k => .i ((k : Int) < (↑(List.map Yh9 s.items).length : Int)) (.x (k : Int) (List.map Yh9 s.items) (Yhg (s.items.getD k default)) (.d [.rd, .rd] (Z18
 (s.items.getD k default) n) (.b (!blw n (s.items.getD k default)) (.o 1 [] [.s (lb false)]) (.r ((k : Int) + 1) (.g [] (k + 1) [.s (li ((k : Int) + 1))]))))) (.o 0 [] [])) (by
 intro k h; try dsimp only [Yhf, Yhl, Z2w] at h ⊢
 with_reducible repeat' (first | apply And.intro | exact zR | exact ih | (intro) | apply mIc | apply mOc | apply mSc | apply mLc | apply ih)
 all_goals ((try simp only [std, inj] at *); with_reducible and_intros)
 all_goals try with_reducible first | apply ih
 all_goals try first | exact z | exact zM | grind [Yhy, Yhj, Yhi, Yhh, Yhe])
theorem Zbr (s : YS) (n : Int) (ih : ∀ (z : YS), z ∈ s.items -> ∀ (n : Int), OK (Z18 z n)) : Lp.Sem Tryz.prog (Yhp Tryz.f73 0) (Z2x s n) :=
 Yhz (fun k => .i ((k : Int) < (↑(List.map Yhd s.scopes).length : Int)) (.x (k : Int) (List.map Yhd s.scopes) [cI (s.scopes.getD k 0)] (.i (n < s.scopes.getD k 0) (.o 1 [] [.s
 (lb false)]) (.r ((k : Int) + 1) (.g [0] (k + 1) [.s (li ((k : Int) + 1))])))) (.o 0 [0] [])) (by
 intro k h; try dsimp only [Yhf, Yhl, Z2x] at h ⊢
 have g1 := Yxo n s
 have g2 := @Y13t n s.scopes k
 with_reducible repeat' (first | apply And.intro | exact zR | exact ih | (intro) | apply mIc | apply mOc | apply mSc | apply mLc | apply ih)
 all_goals ((try simp only [std, inj] at *); with_reducible and_intros)
 all_goals try with_reducible first | apply ih
 all_goals try first | exact z | exact zM | grind [Yhy, Yhj, scB, Yhi, Yhh, Yhe])
theorem Zep (s : YS) (n : Int) (ih : ∀ z ∈ s.items, ∀ (n : Int), Z18 z n)  : Z18 s n := Yhq Tryz.call73 Tryz.func73 (.z Yhd s.scopes (.l (Z2x s
 n) (Zbr s n ih) [0] [.s (li 0)] 0 (.t (.z Yh9 s.items (.l (Z2w s n) (Zbq s n ih) [] [.s (li 0)] 0 (.t (.s (lb true)) (.t (.s (lb false)) .q))))
 (.t (.s (lb false)) .q)))) (by
 dsimp only [Yhf, Z18, Yhl, Z2x, Z2w]
 have g1 := Yxo n s
 with_reducible repeat' (first | apply And.intro | exact zR | exact ih | (intro) | apply mIc | apply mOc | apply mSc | apply mLc)
 all_goals ((try simp only [std, inj] at *); with_reducible and_intros)
 all_goals try with_reducible first | apply ih
 all_goals try first | exact z | exact zM | grind [scB, Yhi, Yhh, Yhe])
theorem Z42 (s : YS) : ∀ (n : Int), Z18 s n := YS.ind (P := fun s => ∀ (n : Int), Z18 s n) (fun s ih n => Zep s n ih) s
def ruL (r : YR) : List (List YS) := [r.literals, r.patterns, r.templates]
def Ynu (n : Int) (L : List YS) : Bool := L.all (blw n)
def Ynv (n : Int) (r : YR) : Bool := (ruL r).all (Ynu n)
theorem Y1ii (n : Int) (r : YR) : Ynv n r = (Ynu n r.literals && Ynu n r.patterns && Ynu n r.templates) := by
 simp only [Ynv, ruL, List.all_cons, List.all_nil, Bool.and_true, Bool.and_assoc]
def Ysi (l : List YS) : List Cell := [.list (l.map Yh9)]
def Y1gd (l : List YS) : List Cell := [.list (l.map Yh9)]
instance : Row (List YS) Ysi Y1gd 1 := ⟨fun _ => rfl, fun _ => rfl⟩
theorem Y11d (r : YR) : [[Cell.list (r.literals.map Yh9)], [Cell.list (r.patterns.map Yh9)], [Cell.list (r.templates.map Yh9)]] = (ruL r).map Ysi := rfl
abbrev Zbc (L : List YS) (n : Int) : Ct := ⟨149, [], [ll (L.map Yh9), li n], [], .sv (lb (Ynu n L))⟩
def Z5b (L : List YS) (n : Int) : Lp Nat := .mk 18 0 (fun x => [(1, li n), (7, ll (L.map Yh9)), (8, li (↑(L.map Yh9).length : Int)), (9, hs x 0)]) (fun
 x => []) (fun k => [.s (li (k : Int))]) (fun k => k <= L.length /\ L.length <= 9223372036854775807 /\ (L.take k).all (blw n) = true) (fun k => L.length - k) [.mk (Ynu n L =
 true) (.exit 0) (fun x => []) (fun x => []) [], .mk (Ynu n L = false) .ret (fun x => [(4, hs x 0)]) (fun x => []) [.s (lb false)]]
theorem Zeq (L : List YS) (n : Int) : Lp.Sem Tryz.prog (Yhp Tryz.f149 0) (Z5b L n) := Yhz (fun k => .i ((k : Int) < (↑(L.map Yh9).length : Int)) (.x
 (k : Int) (L.map Yh9) (Yhg (L.getD k default)) (.c [.rd, .rd] (Z42 (L.getD k default) n) (.b (!blw n (L.getD k default)) (.o 1 [] [.s (lb false)]) (.r ((↑k :
 Int) + 1) (.g [] (k + 1) [.s (li ((k : Int) + 1))]))))) (.o 0 [] [])) (by
 intro k h; try dsimp only [Yhf, Yhl, Z5b] at h ⊢
 with_reducible repeat' (first | apply And.intro | exact zR | (intro) | apply mIc | apply mOc | apply mSc | apply mLc)
 all_goals ((try simp only [std, inj] at *); with_reducible and_intros)
 all_goals try first | exact z | exact zM | grind [Yhy, Yhj, Ynu, Yhi, Yhh, Yhe])
theorem Zal (L : List YS) (n : Int)  : Zbc L n := Yhq Tryz.call149 Tryz.func149 (.z Yh9 L (.l (Z5b L n) (Zeq L n) [] [.s (li 0)] 0 (.t (.s (lb true))
 (.t (.s (lb false)) .q)))) (by
 dsimp only [Yhf, Zbc, Yhl, Z5b]
 with_reducible repeat' (first | apply And.intro | exact zR | (intro) | apply mIc | apply mOc | apply mSc | apply mLc)
 all_goals ((try simp only [std, inj] at *); with_reducible and_intros)
 all_goals try first | exact z | exact zM | grind [Ynu, Yhi, Yhh, Yhe])
abbrev Zbd (r : YR) (n : Int) : Ct := ⟨75, [], [Ymf r, li n], [], .sv (lb (Ynv n r))⟩
theorem Zgz (r : YR) (n : Int)  : Zbd r n := Yhq Tryz.call75 Tryz.func75 (.c [.rd, .rd] (Zal r.literals n) (.b (Ynu n r.literals) (.c [.rd, .rd] (Zal
 r.patterns n) (.b (Ynu n r.patterns) (.c [.rd, .rd] (Zal r.templates n) (.s (lb (Ynu n r.templates)))) (.s (lb false)))) (.y false (.s (lb false))))) (by
 dsimp only [Yhf, Zbd]
 have g1 := Y1ii n r
 with_reducible repeat' (first | apply And.intro | exact zR | (intro) | apply mIc | apply mOc | apply mSc | apply mLc)
 all_goals ((try simp only [std, inj] at *); with_reducible and_intros)
 all_goals try first | exact z | exact zM | grind [Yhi, Yhh, Yhe])
abbrev Zbe (r : YR) (n : Int) : Ct := ⟨64, [], [Ymf r, li n], [], .sv (lb (Ynv n r))⟩
def Z5c (r : YR) (n : Int) (k : Nat) : Lp Nat := .mk 33 0 (fun x => [(1, li n), (15, .one (.ref 0)), (16, li 3), (17, li (k : Int)), (21, ll (((ruL
 r).getD (k : Int).toNat []).map Yh9)), (22, li (↑(((ruL r).getD (k : Int).toNat []).map Yh9).length : Int)), (23, hs x 0)]) (fun x => [.arr false 1 ((ruL r).map Ysi)])
 (fun k1 => [.s (li (k1 : Int))]) (fun k1 => k1 <= ((ruL r).getD k []).length /\ ((ruL r).getD k []).length <= 9223372036854775807 /\ k < 3 /\ (List.take k1 ((ruL r).getD k [])).all
 (blw n) = true) (fun k1 => ((ruL r).getD k []).length - k1) [.mk (Ynu n ((ruL r).getD k []) = true) (.exit 2) (fun x => [(1, li n), (15, .one (.ref 0)), (16, li 3), (17, li
 (k : Int))]) (fun x => [.arr false 1 ((ruL r).map Ysi)]) [], .mk (Ynv n r = false) .ret (fun x => [(4, hs x 0)]) (fun x => []) [.s (lb false)]]
def Z5d (r : YR) (n : Int) : Lp Nat := .mk 33 0 (fun x => [(1, li n), (15, .one (.ref 0)), (16, li 3), (17, hs x 0)]) (fun x => [ho x 1]) (fun k => [.s (li (↑k :
 Int)), .o (.arr false 1 ((ruL r).map Ysi))]) (fun k => k <= 3 /\ (List.take k (ruL r)).all (Ynu n) = true) (fun k => 3 - k) [.mk (Ynv n r = true) (.exit 0) (fun x => [])
 (fun x => []) [], .mk (Ynv n r = false) .ret (fun x => [(4, hs x 0)]) (fun x => []) [.s (lb false)]]
theorem Zer (r : YR) (n : Int) (k : Nat) : Lp.Sem Tryz.prog (Yhp Tryz.f64 1) (Z5c r n k) := Yhz (fun k1 => .i ((k1 : Int) < (↑(((ruL r).getD
 (k : Int).toNat []).map Yh9).length : Int)) (.x (k1 : Int) (((ruL r).getD (k : Int).toNat []).map Yh9) (Yhg (((ruL r).getD (k : Int).toNat []).getD k1 default)) (.c [.rd,
 .rd] (Zcp (((ruL r).getD (k : Int).toNat []).getD k1 default) n) (.b (!blw n (((ruL r).getD (k : Int).toNat []).getD k1 default)) (.o 1 [] [.s (lb false)]) (.r ((k1 : Int)
 + 1) (.g [0] (k1 + 1) [.s (li ((k1 : Int) + 1))]))))) (.o 0 [0] [])) (by
 intro k1 h; try dsimp only [Yhf, Yhl, Z5c] at h ⊢
 have e : (ruL r).length = 3 := rfl
 have g1 := @Yhy _ _ ((ruL r).getD k []) k1
 have g2 : (ruL r).getD k default = (ruL r).getD k [] := rfl
 have g3 : k < (ruL r).length -> (ruL r).getD k [] ∈ ruL r := fun h => Yhj h
 with_reducible repeat' (first | apply And.intro | exact zR | (intro) | apply mIc | apply mOc | apply mSc | apply mLc)
 all_goals ((try simp only [std, inj] at *); with_reducible and_intros)
 all_goals try first | exact z | exact zM | grind [Y11d, Ynv, Ynu, Yhj, Yhi, Yhh, Yhe])
theorem Zes (r : YR) (n : Int) : Lp.Sem Tryz.prog (Yhp Tryz.f64 0) (Z5d r n) := Yhz (fun k => .i ((k : Int) < 3) (.p (0 <= (k : Int) /\ (k : Int).toNat < 3)
 (.w (.cells (Y1gd ((ruL r).getD (k : Int).toNat default))) (.p (((ruL r).map Ysi)[(k : Int).toNat]? = some [Cell.list (((ruL r).getD (k : Int).toNat
 []).map Yh9)]) (.z Yh9 ((ruL r).getD (k : Int).toNat []) (.l (Z5c r n k) (Zer r n k) [0] [.s (li 0)] 0 (.t (.r ((k : Int) + 1) (.g [0] (k + 1) [.s (li ((k : Int) +
 1)), .o (.arr false 1 ((ruL r).map Ysi))])) (.t (.o 1 [] [.s (lb false)]) .q))))))) (.o 0 [] [])) (by
 intro k h; try dsimp only [Yhf, Yhl, Z5d, Z5c] at h ⊢
 have e : (ruL r).length = 3 := rfl
 have g1 := @Yhy _ _ (ruL r) k
 have g2 : (ruL r).getD k default = (ruL r).getD k [] := rfl
 with_reducible repeat' (first | apply And.intro | exact zR | (intro) | apply mIc | apply mOc | apply mSc | apply mLc)
 all_goals ((try simp only [std, inj] at *); with_reducible and_intros)
 all_goals try first | exact z | exact zM | grind [Y11d, Ynv, Yhi, Yhh, Yhe])
theorem Zh0 (r : YR) (n : Int)  : Zbe r n := Yhq Tryz.call64 Tryz.func64 (.h (3 <= 9223372036854775807) (.l (Z5d r n) (Zes r n) [1] [.s (li 0), .o (.arr
 false 1 [[.list (r.literals.map Yh9)], [.list (r.patterns.map Yh9)], [.list (r.templates.map Yh9)]])] 0 (.t (.s (lb true)) (.t (.s (lb
 false)) .q)))) (by
 dsimp only [Yhf, Zbe, Yhl, Z5d]
 with_reducible repeat' (first | apply And.intro | exact zR | (intro) | apply mIc | apply mOc | apply mSc | apply mLc)
 all_goals ((try simp only [std, inj] at *); with_reducible and_intros)
 all_goals try first | exact z | exact zM | grind [Ynv, Yhi, Yhh, Yhe]
 all_goals rfl)
def Yo0 (x : YE) (b : YB) : Bool := !(decide (0 < (b.scopes.length : Int)) && decide (x.scope < b.scopes.getD ((b.scopes.length : Int) - 1).toNat 0)) && !(decide (b.kind = 3) && decide (x.vari < b.number)) && !(decide (b.kind = 4) && decide ((x.macros.length : Int) <= b.number))
def ruX (x : YE) (r : YR) : Bool := Yko r && Ynv x.scope r
def Ym6 (x : YE) : Bool := Yrw x.bindings && decide ((x.macros.length : Int) <= 200) && decide (0 <= x.scope /\ x.scope <= 99999) && decide (0 <= x.vari /\ x.vari <= 99999) && decide (0 <= x.steps /\ x.steps <= 200) && x.macros.all (ruX x) && x.bindings.all (Yo0 x)
theorem Y10i {x : YE} {k : Nat} (hk : k < x.bindings.length) (h : Yo0 x (x.bindings.getD k default) = false) : x.bindings.all (Yo0 x) = false := by
 rw [List.all_eq_false]; exact ⟨_, Yhj hk, by rw [h]; decide⟩
theorem Y15c {x : YE} {k : Nat} (hk : k < x.macros.length) (h : ruX x (x.macros.getD k default) = false) : x.macros.all (ruX x) = false := by
 rw [List.all_eq_false]; exact ⟨_, Yhj hk, by rw [h]; decide⟩
theorem Y188 {x : YE} {k : Nat} (hk : k < x.bindings.length) (h0 : (x.bindings.take k).all (Yo0 x) = true) (h : Yo0 x (x.bindings.getD k default) = true) : (x.bindings.take (k + 1)).all (Yo0 x) = true := by
 rw [Yhy hk, List.all_append, h0]; simpa using h
theorem Y1bs {x : YE} {k : Nat} (hk : k < x.macros.length) (h0 : (x.macros.take k).all (ruX x) = true) (h : ruX x (x.macros.getD k default) = true) : (x.macros.take (k + 1)).all (ruX x) = true := by
 rw [Yhy hk, List.all_append, h0]; simpa using h
abbrev Z7j (x : YE) : Ct := ⟨116, [], [Yk1 x], [], .sv (lb (Ym6 x))⟩
def Z4d (x : YE) : Lp Nat := .mk 103 0 (fun x_1 => [(1, .one (.ptr 0 0)), (55, ll (x.bindings.map Yhc)), (56, li (↑(x.bindings.map Yhc).length
 : Int)), (57, hs x_1 0)]) (fun x_1 => [.box (vals (Yis x))]) (fun k => [.s (li (k : Int))]) (fun k => k <= x.bindings.length /\ x.bindings.length <= 9223372036854775807 /\
 (x.bindings.take k).all (Yo0 x) = true) (fun k => x.bindings.length - k) [.mk (x.bindings.all (Yo0 x) = true) (.exit 2) (fun x => []) (fun x => []) [], .mk (x.bindings.all
 (Yo0 x) = false) .ret (fun x => [(2, hs x 0)]) (fun x => []) [.s (lb false)]]
def Z4e (x : YE) : Lp Nat := .mk 103 0 (fun x_1 => [(1, .one (.ptr 0 0)), (37, ll (x.macros.map Yhm)), (38, li (↑(x.macros.map Yhm).length :
 Int)), (39, hs x_1 0)]) (fun x_1 => [.box (vals (Yis x))]) (fun k => [.s (li (k : Int))]) (fun k => k <= x.macros.length /\ x.macros.length <= 9223372036854775807 /\
 (x.macros.take k).all (ruX x) = true) (fun k => x.macros.length - k) [.mk (x.macros.all (ruX x) = true) (.exit 0) (fun x => [(1, .one (.ptr 0 0))]) (fun x_1 => [.box
 (vals (Yis x))]) [], .mk (x.macros.all (ruX x) = false) .ret (fun x => [(2, hs x 0)]) (fun x => []) [.s (lb false)]]
theorem Zdh (x : YE) (h : wX x <= 1048576) : Lp.Sem Tryz.prog (Yhp Tryz.f116 1) (Z4d x) := Yhz (fun k => .i ((k : Int) < (↑(List.map Yhc
 x.bindings).length : Int)) (.x (k : Int) (x.bindings.map Yhc) (Yhx (x.bindings.getD k default)) (.z Yhd (x.bindings.getD k default).scopes (.w (.draw []) (.i (0 <
 (↑((x.bindings.getD k default).scopes.map Yhd).length : Int)) (.r ((↑((x.bindings.getD k default).scopes.map Yhd).length : Int) - 1) (.x ((↑(List.map Yhd
 (x.bindings.getD k default).scopes).length : Int) - 1) ((x.bindings.getD k default).scopes.map Yhd) [cI ((x.bindings.getD k default).scopes.getD ((↑(List.map Yhd
 (x.bindings.getD k default).scopes).length : Int) - 1).toNat 0)] (.i (x.scope < (x.bindings.getD k default).scopes.getD ((↑((x.bindings.getD k
 default).scopes.map Yhd).length : Int) - 1).toNat 0) (.y true (.y true (.o 1 [] [.s (lb false)]))) (.i ((x.bindings.getD k default).kind = 3) (.i (x.vari < (x.bindings.getD k
 default).number) (.y true (.o 1 [] [.s (lb false)])) (.i ((x.bindings.getD k default).kind = 4) (.z Yhm x.macros (.i ((↑(x.macros.map Yhm).length : Int) <=
 (x.bindings.getD k default).number) (.o 1 [] [.s (lb false)]) (.r ((k : Int) + 1) (.g [0] (k + 1) [.s (li ((k : Int) + 1))])))) (.y false (.r ((k : Int) + 1) (.g [0] (k + 1)
 [.s (li ((k : Int) + 1))]))))) (.y false (.i ((x.bindings.getD k default).kind = 4) (.z Yhm x.macros (.i ((↑(x.macros.map Yhm).length : Int) <= (x.bindings.getD k
 default).number) (.o 1 [] [.s (lb false)]) (.r ((k : Int) + 1) (.g [0] (k + 1) [.s (li ((k : Int) + 1))])))) (.y false (.r ((k : Int) + 1) (.g [0] (k + 1) [.s (li ((k : Int) +
 1))]))))))))) (.y false (.i ((x.bindings.getD k default).kind = 3) (.i (x.vari < (x.bindings.getD k default).number) (.y true (.o 1 [] [.s (lb false)])) (.i ((x.bindings.getD k
 default).kind = 4) (.z Yhm x.macros (.i ((↑(x.macros.map Yhm).length : Int) <= (x.bindings.getD k default).number) (.o 1 [] [.s (lb false)]) (.r ((k : Int) + 1) (.g [0]
 (k + 1) [.s (li ((k : Int) + 1))])))) (.y false (.r ((k : Int) + 1) (.g [0] (k + 1) [.s (li ((k : Int) + 1))]))))) (.y false (.i ((x.bindings.getD k default).kind = 4) (.z
 Yhm x.macros (.i ((↑(x.macros.map Yhm).length : Int) <= (x.bindings.getD k default).number) (.o 1 [] [.s (lb false)]) (.r ((k : Int) + 1) (.g [0] (k + 1) [.s (li ((↑k :
 Int) + 1))])))) (.y false (.r ((k : Int) + 1) (.g [0] (k + 1) [.s (li ((k : Int) + 1))]))))))))))) (.o 0 [] [])) (by
 intro k h; try dsimp only [Yhf, Yhl, Z4d] at h ⊢
 have g1 := Yli x
 have g2 := @Yi4 _ wB x.bindings (x.bindings.getD k default)
 have g3 := @Y10i x k
 have g4 := @Y188 x k
 have g5 : Yo0 x (x.bindings.getD k default) = (!(decide (0 < ((x.bindings.getD k default).scopes.length : Int)) && decide (x.scope < (x.bindings.getD k default).scopes.getD (((x.bindings.getD k default).scopes.length : Int) - 1).toNat 0)) && !(decide ((x.bindings.getD k default).kind = 3) && decide (x.vari < (x.bindings.getD k default).number)) && !(decide ((x.bindings.getD k default).kind = 4) && decide ((x.macros.length : Int) <= (x.bindings.getD k default).number))) := rfl
 have g6 : x.bindings.length <= k -> x.bindings.take k = x.bindings := fun h => List.take_of_length_le h
 have g7 := Ysh (x.bindings.getD k default)
 with_reducible repeat' (first | apply And.intro | exact zR | (intro) | apply mIc | apply mOc | apply mSc | apply mLc | apply Z2f)
 all_goals ((try simp only [std, inj] at *); with_reducible and_intros)
 all_goals try with_reducible first | apply Z2f
 all_goals try first | exact z | exact zM | grind [Yhj, Yhi, Yhh, Yhe])
theorem Zdi (x : YE) (h : wX x <= 1048576) : Lp.Sem Tryz.prog (Yhp Tryz.f116 0) (Z4e x) := Yhz (fun k => .i ((k : Int) < (↑(List.map Yhm
 x.macros).length : Int)) (.x (k : Int) (x.macros.map Yhm) (Yix (x.macros.getD k default)) (.d [.rd] (Z60 (x.macros.getD k default)) (.b (!Yko (x.macros.getD
 k default)) (.y true (.o 1 [] [.s (lb false)])) (.c [.rd, .rd] (Zh0 (x.macros.getD k default) x.scope) (.b (!Ynv x.scope (x.macros.getD k default)) (.o 1 [] [.s (lb false)])
 (.r ((k : Int) + 1) (.g [0] (k + 1) [.s (li ((k : Int) + 1))]))))))) (.o 0 [0] [])) (by
 intro k h; try dsimp only [Yhf, Yhl, Z4e] at h ⊢
 have g1 := Yli x
 have g2 := @Yi4 _ wR x.macros (x.macros.getD k default)
 have g3 := @Y15c x k
 have g4 := @Y1bs x k
 have g5 : ruX x (x.macros.getD k default) = (Yko (x.macros.getD k default) && Ynv x.scope (x.macros.getD k default)) := rfl
 have g6 : x.macros.length <= k -> x.macros.take k = x.macros := fun h => List.take_of_length_le h
 with_reducible repeat' (first | apply And.intro | exact zR | (intro) | apply mIc | apply mOc | apply mSc | apply mLc | apply Z2f)
 all_goals ((try simp only [std, inj] at *); with_reducible and_intros)
 all_goals try with_reducible first | apply Z2f
 all_goals try first | exact z | exact zM | grind [Yhj, Yhi, Yhh, Yhe])
theorem Zcq (x : YE) (h : wX x <= 1048576)  : Z7j x := Yhq Tryz.call116 Tryz.func116 (.c [.rd] (Zh6 x.bindings) (.b (!Yrw x.bindings) (.y true (.y true (.y true
 (.y true (.s (lb false)))))) (.z Yhm x.macros (.i (200 < (↑(x.macros.map Yhm).length : Int)) (.y true (.y true (.y true (.s (lb false))))) (.c [.rd, .rd, .rd] (Z1g
 x.scope 0 99999) (.b (!decide (0 <= x.scope /\ x.scope <= 99999)) (.y true (.y true (.s (lb false)))) (.c [.rd, .rd, .rd] (Z1g x.vari 0 99999) (.b (!decide (0 <= x.vari /\ x.vari <=
 99999)) (.y true (.s (lb false))) (.c [.rd, .rd, .rd] (Z1g x.steps 0 200) (.b (!decide (0 <= x.steps /\ x.steps <= 200)) (.s (lb false)) (.z Yhm x.macros (.l (Z4e x)
 (Zdi x h) [0] [.s (li 0)] 0 (.t (.z Yhc x.bindings (.l (Z4d x) (Zdh x h) [0] [.s (li 0)] 0 (.t (.s (lb true)) (.t (.s (lb false)) .q)))) (.t (.s (lb
 false)) .q)))))))))))))) (by
 dsimp only [Yhf, Z7j, Yhl, Z4e, Z4d]
 with_reducible repeat' (first | apply And.intro | exact zR | (intro) | apply mIc | apply mOc | apply mSc | apply mLc | apply Z2f)
 all_goals ((try simp only [std, inj] at *); with_reducible and_intros)
 all_goals try with_reducible first | apply Z2f
 all_goals try first | exact z | exact zM | grind [Ym6, Yhi, Yhh, Yhe])
abbrev Z7k (x : YE) : Ct := ⟨71, [], [Yk1 x], [], .sv (lb (Ym6 x))⟩
def Z4f (x : YE) : Lp Nat := .mk 115 0 (fun x_1 => [(1, .one (.ptr 0 0)), (66, ll (x.bindings.map Yhc)), (67, li (↑(x.bindings.map Yhc).length
 : Int)), (68, hs x_1 0)]) (fun x_1 => [.box (vals (Yis x))]) (fun k => [.s (li (k : Int))]) (fun k => k <= x.bindings.length /\ x.bindings.length <= 9223372036854775807 /\
 (x.bindings.take k).all (Yo0 x) = true) (fun k => x.bindings.length - k) [.mk (x.bindings.all (Yo0 x) = true) (.exit 2) (fun x => []) (fun x => []) [], .mk (x.bindings.all
 (Yo0 x) = false) .ret (fun x => [(2, hs x 0)]) (fun x => []) [.s (lb false)]]
def Z4g (x : YE) : Lp Nat := .mk 115 0 (fun x_1 => [(1, .one (.ptr 0 0)), (48, ll (x.macros.map Yhm)), (49, li (↑(x.macros.map Yhm).length :
 Int)), (50, hs x_1 0)]) (fun x_1 => [.box (vals (Yis x))]) (fun k => [.s (li (k : Int))]) (fun k => k <= x.macros.length /\ x.macros.length <= 9223372036854775807 /\
 (x.macros.take k).all (ruX x) = true) (fun k => x.macros.length - k) [.mk (x.macros.all (ruX x) = true) (.exit 0) (fun x => [(1, .one (.ptr 0 0))]) (fun x_1 => [.box
 (vals (Yis x))]) [], .mk (x.macros.all (ruX x) = false) .ret (fun x => [(2, hs x 0)]) (fun x => []) [.s (lb false)]]
theorem Zdj (x : YE) (h : wX x <= 1048576) : Lp.Sem Tryz.prog (Yhp Tryz.f71 1) (Z4f x) := Yhz (fun k => .i ((k : Int) < (↑(List.map Yhc
 x.bindings).length : Int)) (.x (k : Int) (x.bindings.map Yhc) (Yhx (x.bindings.getD k default)) (.w (.draw []) (.i (0 < (↑((x.bindings.getD k
 default).scopes.map Yhd).length : Int)) (.r ((↑((x.bindings.getD k default).scopes.map Yhd).length : Int) - 1) (.x ((↑((x.bindings.getD k default).scopes.map Yhd).length :
 Int) - 1) ((x.bindings.getD k default).scopes.map Yhd) [cI ((x.bindings.getD k default).scopes.getD ((↑((x.bindings.getD k default).scopes.map Yhd).length : Int) -
 1).toNat 0)] (.i (x.scope < (x.bindings.getD k default).scopes.getD ((↑((x.bindings.getD k default).scopes.map Yhd).length : Int) - 1).toNat 0) (.y true (.z Yhd
 (x.bindings.getD k default).scopes (.z Yhd (x.bindings.getD k default).scopes (.y true (.o 1 [] [.s (lb false)]))))) (.i ((x.bindings.getD k default).kind = 3) (.i (x.vari <
 (x.bindings.getD k default).number) (.z Yhd (x.bindings.getD k default).scopes (.z Yhd (x.bindings.getD k default).scopes (.y true (.o 1 [] [.s (lb false)])))) (.i
 ((x.bindings.getD k default).kind = 4) (.z Yhd (x.bindings.getD k default).scopes (.z Yhd (x.bindings.getD k default).scopes (.z Yhm x.macros (.i ((↑(List.map Yhm
 x.macros).length : Int) <= (x.bindings.getD k default).number) (.o 1 [] [.s (lb false)]) (.r ((k : Int) + 1) (.g [0] (k + 1) [.s (li ((k : Int) + 1))])))))) (.z Yhd
 (x.bindings.getD k default).scopes (.z Yhd (x.bindings.getD k default).scopes (.y false (.r ((k : Int) + 1) (.g [0] (k + 1) [.s (li ((k : Int) + 1))]))))))) (.y false (.i
 ((x.bindings.getD k default).kind = 4) (.z Yhd (x.bindings.getD k default).scopes (.z Yhd (x.bindings.getD k default).scopes (.z Yhm x.macros (.i ((↑(List.map Yhm
 x.macros).length : Int) <= (x.bindings.getD k default).number) (.o 1 [] [.s (lb false)]) (.r ((k : Int) + 1) (.g [0] (k + 1) [.s (li ((k : Int) + 1))])))))) (.z Yhd
 (x.bindings.getD k default).scopes (.z Yhd (x.bindings.getD k default).scopes (.y false (.r ((k : Int) + 1) (.g [0] (k + 1) [.s (li ((k : Int) + 1))]))))))))))) (.y false (.i
 ((x.bindings.getD k default).kind = 3) (.i (x.vari < (x.bindings.getD k default).number) (.z Yhd (x.bindings.getD k default).scopes (.y true (.o 1 [] [.s (lb false)]))) (.i
 ((x.bindings.getD k default).kind = 4) (.z Yhd (x.bindings.getD k default).scopes (.z Yhm x.macros (.i ((↑(x.macros.map Yhm).length : Int) <= (x.bindings.getD k
 default).number) (.o 1 [] [.s (lb false)]) (.r ((k : Int) + 1) (.g [0] (k + 1) [.s (li ((k : Int) + 1))]))))) (.z Yhd (x.bindings.getD k default).scopes (.y false (.r ((↑k :
 Int) + 1) (.g [0] (k + 1) [.s (li ((k : Int) + 1))])))))) (.y false (.i ((x.bindings.getD k default).kind = 4) (.z Yhd (x.bindings.getD k default).scopes (.z Yhm x.macros (.i
 ((↑(x.macros.map Yhm).length : Int) <= (x.bindings.getD k default).number) (.o 1 [] [.s (lb false)]) (.r ((k : Int) + 1) (.g [0] (k + 1) [.s (li ((k : Int) + 1))])))))
 (.z Yhd (x.bindings.getD k default).scopes (.y false (.r ((k : Int) + 1) (.g [0] (k + 1) [.s (li ((k : Int) + 1))]))))))))))) (.o 0 [] [])) (by
 intro k h; try dsimp only [Yhf, Yhl, Z4f] at h ⊢
 have g1 := Yli x
 have g2 := @Yi4 _ wB x.bindings (x.bindings.getD k default)
 have g3 := @Y10i x k
 have g4 := @Y188 x k
 have g5 : Yo0 x (x.bindings.getD k default) = (!(decide (0 < ((x.bindings.getD k default).scopes.length : Int)) && decide (x.scope < (x.bindings.getD k default).scopes.getD (((x.bindings.getD k default).scopes.length : Int) - 1).toNat 0)) && !(decide ((x.bindings.getD k default).kind = 3) && decide (x.vari < (x.bindings.getD k default).number)) && !(decide ((x.bindings.getD k default).kind = 4) && decide ((x.macros.length : Int) <= (x.bindings.getD k default).number))) := rfl
 have g6 : x.bindings.length <= k -> x.bindings.take k = x.bindings := fun h => List.take_of_length_le h
 have g7 := Ysh (x.bindings.getD k default)
 with_reducible repeat' (first | apply And.intro | exact zR | (intro) | apply mIc | apply mOc | apply mSc | apply mLc | apply Z2g)
 all_goals ((try simp only [std, inj] at *); with_reducible and_intros)
 all_goals try with_reducible first | apply Z2g
 all_goals try first | exact z | exact zM | grind [Yhj, Yhi, Yhh, Yhe])
theorem Zdk (x : YE) (h : wX x <= 1048576) : Lp.Sem Tryz.prog (Yhp Tryz.f71 0) (Z4g x) := Yhz (fun k => .i ((k : Int) < (↑(List.map Yhm
 x.macros).length : Int)) (.x (k : Int) (x.macros.map Yhm) (Yix (x.macros.getD k default)) (.d [.rd] (Z61 (x.macros.getD k default)) (.b (!Yko (x.macros.getD
 k default)) (.y true (.o 1 [] [.s (lb false)])) (.c [.rd, .rd] (Zgz (x.macros.getD k default) x.scope) (.b (!Ynv x.scope (x.macros.getD k default)) (.o 1 [] [.s (lb false)])
 (.r ((k : Int) + 1) (.g [0] (k + 1) [.s (li ((k : Int) + 1))]))))))) (.o 0 [0] [])) (by
 intro k h; try dsimp only [Yhf, Yhl, Z4g] at h ⊢
 have g1 := Yli x
 have g2 := @Yi4 _ wR x.macros (x.macros.getD k default)
 have g3 := @Y15c x k
 have g4 := @Y1bs x k
 have g5 : ruX x (x.macros.getD k default) = (Yko (x.macros.getD k default) && Ynv x.scope (x.macros.getD k default)) := rfl
 have g6 : x.macros.length <= k -> x.macros.take k = x.macros := fun h => List.take_of_length_le h
 with_reducible repeat' (first | apply And.intro | exact zR | (intro) | apply mIc | apply mOc | apply mSc | apply mLc | apply Z2g)
 all_goals ((try simp only [std, inj] at *); with_reducible and_intros)
 all_goals try with_reducible first | apply Z2g
 all_goals try first | exact z | exact zM | grind [Yhj, Yhi, Yhh, Yhe])
theorem Z7l (x : YE) (h : wX x <= 1048576)  : Z7k x := Yhq Tryz.call71 Tryz.func71 (.c [.rd] (Zh7 x.bindings) (.b (!Yrw x.bindings) (.y true (.y true (.y true
 (.y true (.y true (.y true (.y true (.s (lb false))))))))) (.z Yhm x.macros (.i (200 < (↑(x.macros.map Yhm).length : Int)) (.y true (.y true (.y true (.y true (.y true
 (.y true (.s (lb false)))))))) (.i (x.scope < 0) (.y true (.y true (.y true (.y true (.y true (.s (lb false))))))) (.i (99999 < x.scope) (.y true (.y true (.y true (.y true (.s
 (lb false)))))) (.i (x.vari < 0) (.y true (.y true (.y true (.s (lb false))))) (.i (99999 < x.vari) (.y true (.y true (.s (lb false)))) (.i (x.steps < 0) (.y true (.s (lb false)))
 (.i (200 < x.steps) (.s (lb false)) (.z Yhm x.macros (.l (Z4g x) (Zdk x h) [0] [.s (li 0)] 0 (.t (.z Yhc x.bindings (.l (Z4f x) (Zdj x h)
 [0] [.s (li 0)] 0 (.t (.s (lb true)) (.t (.s (lb false)) .q)))) (.t (.s (lb false)) .q)))))))))))))) (by
 dsimp only [Yhf, Z7k, Yhl, Z4g, Z4f]
 with_reducible repeat' (first | apply And.intro | exact zR | (intro) | apply mIc | apply mOc | apply mSc | apply mLc | apply Z2g)
 all_goals ((try simp only [std, inj] at *); with_reducible and_intros)
 all_goals try with_reducible first | apply Z2g
 all_goals try first | exact z | exact zM | grind [Ym6, Yhi, Yhh, Yhe])
set_option maxHeartbeats 4000000
abbrev Z3u (L : List YB) : Ct := ⟨138, [], [ll (L.map Yhc)], [.arr true 4 (L.map Yhc)], .sv (.one (.ref 0))⟩
def Z4h (L : List YB) : Lp Nat := .mk 28 0 (fun x => [(3, .one (.ref 0)), (7, ll (L.map Yhc)), (8, li (↑(L.map Yhc).length : Int)), (9, hs x
 0)]) (fun x => [ho x 1]) (fun k => [.s (li (k : Int)), .o (.arr true 4 ((L.take k).map Yhc))]) (fun k => k <= L.length /\ L.length <= 9223372036854775807) (fun k =>
 L.length - k) [.mk True (.exit 0) (fun x => [(3, .one (.ref 0))]) (fun x => [ho x 0]) [.o (.arr true 4 (L.map Yhc))]]
theorem Zdl (L : List YB) (h : L.length <= 1048577 /\ Yhb wB L <= 1048577) : Lp.Sem Tryz.prog (Yhp Tryz.f138 0) (Z4h L) := Yhz (fun k => .i ((k : Int) <
 (↑(L.map Yhc).length : Int)) (.x (k : Int) (L.map Yhc) (Yhx (L.getD k default)) (.w (.draw [(11, [2]), (12, [0, 10])]) (.d [.rd] (Z3f (L.getD k
 default).scopes) (.p ((((L.take k).map Yhc).length + 1) * 56 <= 140737488355328) (.r ((k : Int) + 1) (.g [11] (k + 1) [.s (li ((k : Int) + 1)), .o (.arr true 4
 ((L.take k).map Yhc ++ [Yhx (L.getD k default)]))])))))) (.o 0 [0] [.o (.arr true 4 ((L.take k).map Yhc))])) (by
 intro k h; try dsimp only [Yhf, Yhl, Z4h] at h ⊢
 have g2 := @Yi4 _ wB L (L.getD k default)
 have g3 := Ysh (L.getD k default)
 with_reducible repeat' (first | apply And.intro | exact zR | (intro) | apply Z7)
 all_goals ((try simp only [std, inj] at *); with_reducible and_intros)
 all_goals try first | with_reducible (first | apply Z7) | (simp only [<- List.map_append]; with_reducible first | apply Z7)
 all_goals try first | exact z | grind [Yhy, Yhi, Yhh, Yhe, Yhj])
theorem Z8 (L : List YB) (h : L.length <= 1048577 /\ Yhb wB L <= 1048577)  : Z3u L := Yhq Tryz.call138 Tryz.func138 (.w (.bool false) (.z Yhc L (.l
 (Z4h L) (Zdl L h) [0] [.s (li 0), .o (.arr true 4 [])] 0 (.t (.f [0] [.arr true 4 (L.map Yhc)] (.sv (.one (.ref 0)))) .q)))) (by
 dsimp only [Yhf, Z3u, Yhl, Z4h]
 with_reducible repeat' (first | apply And.intro | exact zR | (intro) | apply Z7)
 all_goals ((try simp only [std, inj] at *); with_reducible and_intros)
 all_goals try with_reducible first | apply Z7
 all_goals (try exact zG))
abbrev Z4i (b : YB) : Ct := ⟨227, [], [Ym5 b], Yx2 b, .sv (Ywn b 0)⟩
theorem Zo (b : YB) (h : wB b <= 1048577)  : Z4i b := Yhq Tryz.call227 Tryz.func227 (.d [.rd] (Zl b.scopes) (.f [2] [.arr true 1 (List.map Yhd
 b.scopes)] (.sv (.agg [vS b.text, .ref 0, vI b.kind, vI b.number])))) (by
 dsimp only [Yhf, Z4i]
 have g3 := Ysh b
 with_reducible repeat' (first | apply And.intro | exact zR | (intro) | apply Z2)
 all_goals ((try simp only [std, inj] at *); with_reducible and_intros)
 all_goals try with_reducible first | apply Z2
 all_goals (try exact zG))
abbrev Z7m (L : List YB) : Ct := ⟨142, [], [ll (L.map Yhc)], [.arr true 4 (L.map Yhc)], .sv (.one (.ref 0))⟩
def Z4j (L : List YB) : Lp Nat := .mk 19 0 (fun x => [(3, .one (.ref 0)), (6, ll (L.map Yhc)), (7, li (↑(L.map Yhc).length : Int)), (8, hs x
 0)]) (fun x => [ho x 1]) (fun k => [.s (li (k : Int)), .o (.arr true 4 ((L.take k).map Yhc))]) (fun k => k <= L.length /\ L.length <= 9223372036854775807) (fun k =>
 L.length - k) [.mk True (.exit 0) (fun x => [(3, .one (.ref 0))]) (fun x => [ho x 0]) [.o (.arr true 4 (L.map Yhc))]]
theorem Zdm (L : List YB) (h : L.length <= 1048577 /\ Yhb wB L <= 1048577) : Lp.Sem Tryz.prog (Yhp Tryz.f142 0) (Z4j L) := Yhz (fun k => .i ((k : Int) <
 (↑(L.map Yhc).length : Int)) (.x (k : Int) (L.map Yhc) (Yhx (L.getD k default)) (.d [.rd] (Z4i (L.getD k default)) (.p (((List.map Yhc
 (L.take k)).length + 1) * 56 <= 140737488355328) (.r ((k : Int) + 1) (.g [4] (k + 1) [.s (li ((k : Int) + 1)), .o (.arr true 4 ((L.take k).map Yhc ++
 [Yhx (L.getD k default)]))]))))) (.o 0 [0] [.o (.arr true 4 ((L.take k).map Yhc))])) (by
 intro k h; try dsimp only [Yhf, Yhl, Z4j] at h ⊢
 have g2 := @Yi4 _ wB L (L.getD k default)
 with_reducible repeat' (first | apply And.intro | exact zR | (intro) | apply Zo)
 all_goals ((try simp only [std, inj] at *); with_reducible and_intros)
 all_goals try first | with_reducible (first | apply Zo) | (simp only [<- List.map_append]; with_reducible first | apply Zo)
 all_goals try first | exact z | grind [Yhy, Yhi, Yhh, Yhe, Yhj])
theorem Z62 (L : List YB) (h : L.length <= 1048577 /\ Yhb wB L <= 1048577)  : Z7m L := Yhq Tryz.call142 Tryz.func142 (.z Yhc L (.w (.ghost (.nilreg 3 true 4))
 (.l (Z4j L) (Zdm L h) [0] [.s (li 0), .o (.arr true 4 [])] 0 (.t (.f [0] [.arr true 4 (L.map Yhc)] (.sv (.one (.ref 0)))) .q)))) (by
 dsimp only [Yhf, Z7m, Yhl, Z4j]
 with_reducible repeat' (first | apply And.intro | exact zR | (intro) | apply Zo)
 all_goals ((try simp only [std, inj] at *); with_reducible and_intros)
 all_goals try with_reducible first | apply Zo
 all_goals (try exact zG))
abbrev Z2n (L : List YS) : Ct := ⟨228, [], [ll (L.map Yh9)], [.arr true 5 (L.map Yh9)], .sv (.one (.ref 0))⟩
def Z3v (L : List YS) : Lp Nat := .mk 19 0 (fun x => [(3, .one (.ref 0)), (6, ll (L.map Yh9)), (7, li (↑(L.map Yh9).length : Int)), (8, hs x 0)])
 (fun x => [ho x 1]) (fun k => [.s (li (k : Int)), .o (.arr true 5 ((L.take k).map Yh9))]) (fun k => k <= L.length /\ L.length <= 9223372036854775807) (fun k =>
 L.length - k) [.mk True (.exit 0) (fun x => [(3, .one (.ref 0))]) (fun x => [ho x 0]) [.o (.arr true 5 (L.map Yh9))]]
theorem Zcr (L : List YS) (h : L.length <= 1048576 /\ Yhb wY L <= 1048576) : Lp.Sem Tryz.prog (Yhp Tryz.f228 0) (Z3v L) := Yhz (fun k => .i ((k : Int) <
 (↑(L.map Yh9).length : Int)) (.x (k : Int) (L.map Yh9) (Yhg (L.getD k default)) (.d [.rd] (Zm (L.getD k default)) (.p ((((List.take
 k L).map Yh9).length + 1) * 80 <= 140737488355328) (.r ((k : Int) + 1) (.g [5] (k + 1) [.s (li ((k : Int) + 1)), .o (.arr true 5 ((L.take k).map Yh9 ++ [Yhg (L.getD k
 default)]))]))))) (.o 0 [0] [.o (.arr true 5 ((L.take k).map Yh9))])) (by
 intro k h; try dsimp only [Yhf, Yhl, Z3v] at h ⊢
 have g2 := @Yi4 _ wY L (L.getD k default)
 with_reducible repeat' (first | apply And.intro | exact zR | (intro) | apply Z3)
 all_goals ((try simp only [std, inj] at *); with_reducible and_intros)
 all_goals try first | with_reducible (first | apply Z3) | (simp only [<- List.map_append]; with_reducible first | apply Z3)
 all_goals try first | exact z | grind [Yhy, Yhi, Yhh, Yhe, Yhj])
theorem Zbf (L : List YS) (h : L.length <= 1048576 /\ Yhb wY L <= 1048576)  : Z2n L := Yhq Tryz.call228 Tryz.func228 (.z Yh9 L (.w (.ghost (.nilreg 3 true 5))
 (.l (Z3v L) (Zcr L h) [0] [.s (li 0), .o (.arr true 5 [])] 0 (.t (.f [0] [.arr true 5 (L.map Yh9)] (.sv (.one (.ref 0)))) .q)))) (by
 dsimp only [Yhf, Z2n, Yhl, Z3v]
 with_reducible repeat' (first | apply And.intro | exact zR | (intro) | apply Z3)
 all_goals ((try simp only [std, inj] at *); with_reducible and_intros)
 all_goals try with_reducible first | apply Z3
 all_goals (try exact zG))
abbrev Z7n (r : YR) : Ct := ⟨143, [], [Ymf r], Y13z r, .sv (Y12n r 0)⟩
theorem Z63 (r : YR) (h : wR r <= 1048576)  : Z7n r := Yhq Tryz.call143 Tryz.func143 (.w (.draw [(10, [1])]) (.d [.rd] (Z2n r.literals) (.d [.rd] (Z2n
 r.patterns) (.d [.rd] (Z2n r.templates) (.f [2, 10, 18] [.arr true 5 (r.literals.map Yh9), .arr true 5 (r.patterns.map Yh9), .arr true 5 (List.map
 Yh9 r.templates)] (.sv (.agg [.ref 0, .ref 1, .ref 2]))))))) (by
 dsimp only [Yhf, Z7n]
 have g := Ynp r
 with_reducible repeat' (first | apply And.intro | exact zR | (intro) | apply Zbf)
 all_goals ((try simp only [std, inj] at *); with_reducible and_intros)
 all_goals try with_reducible first | apply Zbf
 all_goals (try exact zG))
abbrev Z7o (r : YR) : Ct := ⟨67, [], [Ymf r], Y13z r, .sv (Y12n r 0)⟩
def Z4k (r : YR) : Lp Nat := .mk 57 0 (fun x => [(2, .one (.ptr 0 0)), (3, .one (.ptr 1 0)), (42, ll (r.templates.map Yh9)), (43, li (↑(List.map Yh9
 r.templates).length : Int)), (44, hs x 0)]) (fun x => [.box [.val (.lit (.slice none 0 0)), .val (.lit (.slice none 0 0)), .val (.lit (.slice
 none 0 0))], .box [.ref 2, .ref 3, .ref 4], .arr true 5 (r.literals.map Yh9), .arr true 5 (r.patterns.map Yh9), ho x 1]) (fun k => [.s (li (↑k :
 Int)), .o (.arr true 5 ((r.templates.take k).map Yh9))]) (fun k => k <= r.templates.length /\ r.templates.length <= 9223372036854775807) (fun k => r.templates.length
 - k) [.mk True (.exit 4) (fun x => [(2, .one (.ptr 0 0)), (3, .one (.ptr 1 0))]) (fun x => [.box [.val (.lit (.slice none 0 0)), .val (.lit (.slice
 none 0 0)), .val (.lit (.slice none 0 0))], .box [.ref 2, .ref 3, .ref 4], .arr true 5 (r.literals.map Yh9), .arr true 5 (List.map Yh9
 r.patterns), ho x 0]) [.o (.arr true 5 (r.templates.map Yh9))]]
def Z4l (r : YR) : Lp Nat := .mk 57 0 (fun x => [(1, .one (.ptr 0 0)), (2, .one (.ptr 1 0)), (3, .one (.ptr 2 0)), (27, ll (r.patterns.map Yh9)),
 (28, li (↑(r.patterns.map Yh9).length : Int)), (29, hs x 0)]) (fun x => [.box (vals (Yix r)), .box [.val (.lit (.slice none 0 0)), .val (.lit
 (.slice none 0 0)), .val (.lit (.slice none 0 0))], .box [.ref 3, .ref 4, .val (.lit (.slice none 0 0))], .arr true 5 (List.map Yh9
 r.literals), ho x 1]) (fun k => [.s (li (k : Int)), .o (.arr true 5 ((r.patterns.take k).map Yh9))]) (fun k => k <= r.patterns.length /\ r.patterns.length <=
 9223372036854775807) (fun k => r.patterns.length - k) [.mk True (.exit 2) (fun x => [(1, .one (.ptr 0 0)), (2, .one (.ptr 1 0)), (3, .one (.ptr 2 0))]) (fun x =>
 [.box (vals (Yix r)), .box [.val (.lit (.slice none 0 0)), .val (.lit (.slice none 0 0)), .val (.lit (.slice none 0 0))], .box [.ref 3,
 .ref 4, .val (.lit (.slice none 0 0))], .arr true 5 (r.literals.map Yh9), ho x 0]) [.o (.arr true 5 (r.patterns.map Yh9))]]
def Z4m (r : YR) : Lp Nat := .mk 57 0 (fun x => [(1, .one (.ptr 0 0)), (2, .one (.ptr 1 0)), (3, .one (.ptr 2 0)), (12, ll (r.literals.map Yh9)),
 (13, li (↑(r.literals.map Yh9).length : Int)), (14, hs x 0)]) (fun x => [.box (vals (Yix r)), .box [.val (.lit (.slice none 0 0)), .val (.lit
 (.slice none 0 0)), .val (.lit (.slice none 0 0))], .box [.ref 3, .val (.lit (.slice none 0 0)), .val (.lit (.slice none 0 0))], ho x 1])
 (fun k => [.s (li (k : Int)), .o (.arr true 5 ((r.literals.take k).map Yh9))]) (fun k => k <= r.literals.length /\ r.literals.length <= 9223372036854775807) (fun k
 => r.literals.length - k) [.mk True (.exit 0) (fun x => [(1, .one (.ptr 0 0)), (2, .one (.ptr 1 0)), (3, .one (.ptr 2 0))]) (fun x => [.box (vals (Yix r)), .box
 [.val (.lit (.slice none 0 0)), .val (.lit (.slice none 0 0)), .val (.lit (.slice none 0 0))], .box [.ref 3, .val (.lit (.slice
 none 0 0)), .val (.lit (.slice none 0 0))], ho x 0]) [.o (.arr true 5 (r.literals.map Yh9))]]
theorem Zdn (r : YR) (h : wR r <= 1048576) : Lp.Sem Tryz.prog (Yhp Tryz.f67 2) (Z4k r) := Yhz (fun k => .i ((k : Int) < (↑(List.map Yh9
 r.templates).length : Int)) (.x (k : Int) (r.templates.map Yh9) (Yhg (r.templates.getD k default)) (.w (.draw [(4, [6, 7]), (5, [4, 14]), (7, [1])]) (.d [.rd]
 (Za (r.templates.getD k default)) (.p ((((r.templates.take k).map Yh9).length + 1) * 80 <= 140737488355328) (.r ((k : Int) + 1) (.g [0, 1, 2, 3, 15] (k + 1)
 [.s (li ((k : Int) + 1)), .o (.arr true 5 ((r.templates.take k).map Yh9 ++ [Yhg (r.templates.getD k default)]))])))))) (.o 0 [0, 1, 2, 3, 4] [.o (.arr true
 5 ((r.templates.take k).map Yh9))])) (by
 intro k h; try dsimp only [Yhf, Yhl, Z4k] at h ⊢
 have g := Ynp r
 have g2 := @Yi4 _ wY r.templates (r.templates.getD k default)
 with_reducible repeat' (first | apply And.intro | exact zR | (intro) | apply Z1)
 all_goals ((try simp only [std, inj] at *); with_reducible and_intros)
 all_goals try first | with_reducible (first | apply Z1) | (simp only [<- List.map_append]; with_reducible first | apply Z1)
 all_goals try first | exact z | grind [Yhy, Yhi, Yhh, Yhe, Yhj])
theorem Zdo (r : YR) (h : wR r <= 1048576) : Lp.Sem Tryz.prog (Yhp Tryz.f67 1) (Z4l r) := Yhz (fun k => .i ((k : Int) < (↑(List.map Yh9
 r.patterns).length : Int)) (.x (k : Int) (r.patterns.map Yh9) (Yhg (r.patterns.getD k default)) (.w (.draw [(4, [6, 7]), (5, [4, 14]), (7, [2])]) (.d [.rd]
 (Za (r.patterns.getD k default)) (.p ((((r.patterns.take k).map Yh9).length + 1) * 80 <= 140737488355328) (.r ((k : Int) + 1) (.g [0, 1, 2, 3, 15] (k + 1)
 [.s (li ((k : Int) + 1)), .o (.arr true 5 ((r.patterns.take k).map Yh9 ++ [Yhg (r.patterns.getD k default)]))])))))) (.o 0 [0, 1, 2, 3, 4] [.o (.arr true 5
 ((r.patterns.take k).map Yh9))])) (by
 intro k h; try dsimp only [Yhf, Yhl, Z4l] at h ⊢
 have g := Ynp r
 have g2 := @Yi4 _ wY r.patterns (r.patterns.getD k default)
 with_reducible repeat' (first | apply And.intro | exact zR | (intro) | apply Z1)
 all_goals ((try simp only [std, inj] at *); with_reducible and_intros)
 all_goals try first | with_reducible (first | apply Z1) | (simp only [<- List.map_append]; with_reducible first | apply Z1)
 all_goals try first | exact z | grind [Yhy, Yhi, Yhh, Yhe, Yhj])
theorem Zdp (r : YR) (h : wR r <= 1048576) : Lp.Sem Tryz.prog (Yhp Tryz.f67 0) (Z4m r) := Yhz (fun k => .i ((k : Int) < (↑(List.map Yh9
 r.literals).length : Int)) (.x (k : Int) (r.literals.map Yh9) (Yhg (r.literals.getD k default)) (.w (.draw [(4, [5, 6]), (5, [3, 13]), (7, [2])]) (.d [.rd]
 (Za (r.literals.getD k default)) (.p ((((r.literals.take k).map Yh9).length + 1) * 80 <= 140737488355328) (.r ((k : Int) + 1) (.g [0, 1, 2, 14] (k + 1) [.s
 (li ((k : Int) + 1)), .o (.arr true 5 ((r.literals.take k).map Yh9 ++ [Yhg (r.literals.getD k default)]))])))))) (.o 0 [0, 1, 2, 3] [.o (.arr true 5
 ((r.literals.take k).map Yh9))])) (by
 intro k h; try dsimp only [Yhf, Yhl, Z4m] at h ⊢
 have g := Ynp r
 have g2 := @Yi4 _ wY r.literals (r.literals.getD k default)
 with_reducible repeat' (first | apply And.intro | exact zR | (intro) | apply Z1)
 all_goals ((try simp only [std, inj] at *); with_reducible and_intros)
 all_goals try first | with_reducible (first | apply Z1) | (simp only [<- List.map_append]; with_reducible first | apply Z1)
 all_goals try first | exact z | grind [Yhy, Yhi, Yhh, Yhe, Yhj])
theorem Z64 (r : YR) (h : wR r <= 1048576)  : Z7o r := Yhq Tryz.call67 Tryz.func67 (.z Yh9 r.literals (.w (.ghost (.nilbox 2 0 true 5)) (.l (Z4m r)
 (Zdp r h) [0, 1, 2, 3] [.s (li 0), .o (.arr true 5 [])] 0 (.t (.z Yh9 r.patterns (.w (.ghost (.nilbox 2 1 true 5)) (.l (Z4l r) (Zdo r h) [0, 1, 2, 3,
 4] [.s (li 0), .o (.arr true 5 [])] 0 (.t (.z Yh9 r.templates (.w (.ghost (.nilbox 2 2 true 5)) (.l (Z4k r) (Zdn r h) [1, 2, 3, 4, 5] [.s (li 0), .o (.arr
 true 5 [])] 0 (.t (.f [2, 3, 4] [.arr true 5 (r.literals.map Yh9), .arr true 5 (r.patterns.map Yh9), .arr true 5 (r.templates.map Yh9)] (.sv
 (.agg [.ref 0, .ref 1, .ref 2]))) .q)))) .q)))) .q)))) (by
 dsimp only [Yhf, Z7o, Yhl, Z4m, Z4l, Z4k]
 have g := Ynp r
 with_reducible repeat' (first | apply And.intro | exact zR | (intro) | apply Z1)
 all_goals ((try simp only [std, inj] at *); with_reducible and_intros)
 all_goals try with_reducible first | apply Z1
 all_goals (try exact zG))
abbrev Zu (x : YE) : Ct := ⟨65, [], [Yk1 x], Yu2 x, .sv (Yuz x 0)⟩
def Z4n (x : YE) : Lp Nat := .mk 32 0 (fun x_1 => [(2, .one (.ptr 0 0)), (3, .one (.ptr 1 0)), (17, ll (x.macros.map Yhm)), (18, li (↑(List.map Yhm
 x.macros).length : Int)), (19, hs x_1 0)]) (fun x_1 => [.box [.val (.lit (.slice none 0 0)), .val (.lit (.slice none 0 0)), vI 0, vI 0, vI 0], .box
 [.ref 2, .ref 3, vI x.scope, vI x.vari, vI x.steps], .arr true 4 (x.bindings.map Yhc), ho x_1 1]) (fun k => [.s (li (k : Int)), .o (.arr true 3 (List.map Yhm
 (x.macros.take k)))]) (fun k => k <= x.macros.length /\ x.macros.length <= 9223372036854775807) (fun k => x.macros.length - k) [.mk True (.exit 0) (fun x => [(2, .one (.ptr
 0 0)), (3, .one (.ptr 1 0))]) (fun x_1 => [.box [.val (.lit (.slice none 0 0)), .val (.lit (.slice none 0 0)), vI 0, vI 0, vI 0], .box [.ref 2,
 .ref 3, vI x.scope, vI x.vari, vI x.steps], .arr true 4 (x.bindings.map Yhc), ho x_1 0]) [.o (.arr true 3 (x.macros.map Yhm))]]
theorem Zdq (x : YE) (h : wX x <= 1048576) : Lp.Sem Tryz.prog (Yhp Tryz.f65 0) (Z4n x) := Yhz (fun k => .i ((k : Int) < (↑(List.map Yhm
 x.macros).length : Int)) (.x (k : Int) (x.macros.map Yhm) (Yix (x.macros.getD k default)) (.w (.draw [(4, [5, 6, 7]), (5, [3, 13]), (7, [1])]) (.d [.rd] (Z7o
 (x.macros.getD k default)) (.p ((((x.macros.take k).map Yhm).length + 1) * 72 <= 140737488355328) (.r ((k : Int) + 1) (.g [0, 1, 2, 14] (k + 1) [.s (li ((k : Int) +
 1)), .o (.arr true 3 ((x.macros.take k).map Yhm ++ [Yix (x.macros.getD k default)]))])))))) (.o 0 [0, 1, 2, 3] [.o (.arr true 3 ((List.take k
 x.macros).map Yhm))])) (by
 intro k h; try dsimp only [Yhf, Yhl, Z4n] at h ⊢
 have g := Yli x
 have g2 := @Yi4 _ wR x.macros (x.macros.getD k default)
 with_reducible repeat' (first | apply And.intro | exact zR | (intro) | apply Z8 | apply Z64)
 all_goals ((try simp only [std, inj] at *); with_reducible and_intros)
 all_goals try first | with_reducible (first | apply Z8 | apply Z64) | (simp only [<- List.map_append]; with_reducible first | apply Z8 | apply Z64)
 all_goals try first | exact z | grind [Yhy, Yhi, Yhh, Yhe, Yhj])
theorem Zcs (x : YE) (h : wX x <= 1048576)  : Zu x := Yhq Tryz.call65 Tryz.func65 (.w (.draw [(11, [10])]) (.d [.rd] (Z3u x.bindings) (.z Yhm x.macros
 (.w (.ghost (.nilbox 10 1 true 3)) (.l (Z4n x) (Zdq x h) [1, 10, 2, 11] [.s (li 0), .o (.arr true 3 [])] 0 (.t (.f [2, 3] [.arr true 4 (List.map Yhc
 x.bindings), .arr true 3 (x.macros.map Yhm)] (.sv (.agg [.ref 0, .ref 1, vI x.scope, vI x.vari, vI x.steps]))) .q)))))) (by
 dsimp only [Yhf, Zu, Yhl, Z4n]
 have g := Yli x
 with_reducible repeat' (first | apply And.intro | exact zR | (intro) | apply Z8 | apply Z64)
 all_goals ((try simp only [std, inj] at *); with_reducible and_intros)
 all_goals try with_reducible first | apply Z8 | apply Z64
 all_goals (try exact zG))
abbrev Z5e (x : YE) : Ct := ⟨70, [], [Yk1 x], Yu2 x, .sv (Yuz x 0)⟩
def Z4o (x : YE) : Lp Nat := .mk 32 0 (fun x_1 => [(2, .one (.ptr 0 0)), (3, .one (.ptr 1 0)), (17, ll (x.macros.map Yhm)), (18, li (↑(List.map Yhm
 x.macros).length : Int)), (19, hs x_1 0)]) (fun x_1 => [.box [.val (.lit (.slice none 0 0)), .val (.lit (.slice none 0 0)), vI 0, vI 0, vI 0], .box
 [.ref 2, .ref 3, vI x.scope, vI x.vari, vI x.steps], .arr true 4 (x.bindings.map Yhc), ho x_1 1]) (fun k => [.s (li (k : Int)), .o (.arr true 3 (List.map Yhm
 (x.macros.take k)))]) (fun k => k <= x.macros.length /\ x.macros.length <= 9223372036854775807) (fun k => x.macros.length - k) [.mk True (.exit 0) (fun x => [(2, .one (.ptr
 0 0)), (3, .one (.ptr 1 0))]) (fun x_1 => [.box [.val (.lit (.slice none 0 0)), .val (.lit (.slice none 0 0)), vI 0, vI 0, vI 0], .box [.ref 2,
 .ref 3, vI x.scope, vI x.vari, vI x.steps], .arr true 4 (x.bindings.map Yhc), ho x_1 0]) [.o (.arr true 3 (x.macros.map Yhm))]]
theorem Zdr (x : YE) (h : wX x <= 1048576) : Lp.Sem Tryz.prog (Yhp Tryz.f70 0) (Z4o x) := Yhz (fun k => .i ((k : Int) < (↑(List.map Yhm
 x.macros).length : Int)) (.x (k : Int) (x.macros.map Yhm) (Yix (x.macros.getD k default)) (.w (.draw [(4, [5, 6, 7]), (5, [3, 13]), (7, [1])]) (.d [.rd] (Z7n
 (x.macros.getD k default)) (.p ((((x.macros.take k).map Yhm).length + 1) * 72 <= 140737488355328) (.r ((k : Int) + 1) (.g [0, 1, 2, 14] (k + 1) [.s (li ((k : Int) +
 1)), .o (.arr true 3 ((x.macros.take k).map Yhm ++ [Yix (x.macros.getD k default)]))])))))) (.o 0 [0, 1, 2, 3] [.o (.arr true 3 ((List.take k
 x.macros).map Yhm))])) (by
 intro k h; try dsimp only [Yhf, Yhl, Z4o] at h ⊢
 have g := Yli x
 have g2 := @Yi4 _ wR x.macros (x.macros.getD k default)
 with_reducible repeat' (first | apply And.intro | exact zR | (intro) | apply Z62 | apply Z63)
 all_goals ((try simp only [std, inj] at *); with_reducible and_intros)
 all_goals try first | with_reducible (first | apply Z62 | apply Z63) | (simp only [<- List.map_append]; with_reducible first | apply Z62 | apply Z63)
 all_goals try first | exact z | grind [Yhy, Yhi, Yhh, Yhe, Yhj])
theorem Zct (x : YE) (h : wX x <= 1048576)  : Z5e x := Yhq Tryz.call70 Tryz.func70 (.w (.draw [(11, [10])]) (.d [.rd] (Z7m x.bindings) (.z Yhm x.macros
 (.w (.ghost (.nilbox 10 1 true 3)) (.l (Z4o x) (Zdr x h) [1, 10, 2, 11] [.s (li 0), .o (.arr true 3 [])] 0 (.t (.f [2, 3] [.arr true 4 (List.map Yhc
 x.bindings), .arr true 3 (x.macros.map Yhm)] (.sv (.agg [.ref 0, .ref 1, vI x.scope, vI x.vari, vI x.steps]))) .q)))))) (by
 dsimp only [Yhf, Z5e, Yhl, Z4o]
 have g := Yli x
 with_reducible repeat' (first | apply And.intro | exact zR | (intro) | apply Z62 | apply Z63)
 all_goals ((try simp only [std, inj] at *); with_reducible and_intros)
 all_goals try with_reducible first | apply Z62 | apply Z63
 all_goals (try exact zG))
def nxR (s kind : Int) : Int := s + 1 + (kind - s - 1) % 3
def nxt (s kind : Int) : Int := if nxR s kind <= 99999 then nxR s kind else 0
theorem Y138 {s kind n : Int} (h0 : 0 <= s) (hk : 1 <= kind /\ kind <= 3) (hn : s < n /\ n <= nxR s kind /\ n <= 99999) : (Ym1 n = kind ↔ n = nxR s kind) := by
 unfold Ym1 nxR at *
 split
 ·split <;> omega
 ·omega
theorem Ynj {s kind : Int} : s < nxR s kind /\ nxR s kind <= s + 3 := by unfold nxR; omega
def nxB (s kind : Int) : Bool := decide (nxR s kind <= 99999)
def nxS (s kind : Int) : Int := if nxR s kind <= 99999 then nxR s kind else s
def cdF (c e : Int) : Int := if c = 0 then e else c
abbrev stO (x : YE) (z c : Int) : List Ob := [.box [.ref 1, .ref 2, vI x.scope, vI x.vari, vI x.steps, vI z, vI c], .arr true 4 (x.bindings.map Yhc), .arr true 3 (x.macros.map Yhm)]
abbrev stI (x : YE) (z : Int) : List Ob := [.box [.ref 1, .ref 2, vI x.scope, vI x.vari, vI x.steps, vI z], .arr true 4 (x.bindings.map Yhc), .arr true 3 (x.macros.map Yhm)]
abbrev Zbg (x : YE) (z : Int) (c : Int) (e : Int) : Ct := ⟨139, stO x z c, [.one (.ptr 0 0), li e], stO x z (cdF c e), .sv (.agg [vI 0, vI 0, .val (.lit (.slice none 0 0)), vI 0, vI 0, vS (mkS []), .val (.lit (.slice none 0 0)), .val (.lit (.slice none 0 0))])⟩
theorem Zam (x : YE) (z c e : Int)  : Zbg x z c e := Yhq Tryz.call139 Tryz.func139 (.i (c = 0) (.f [] [.box [.ref 1, .ref 2, vI x.scope, vI x.vari, vI x.steps,
 vI z, vI e], .arr true 4 (x.bindings.map Yhc), .arr true 3 (x.macros.map Yhm)] (.sv (.agg [vI 0, vI 0, .val (.lit (.slice none 0 0)), vI 0, vI
 0, vS (ByteArray.mk #[]), .val (.lit (.slice none 0 0)), .val (.lit (.slice none 0 0))]))) (.f [] [.box [.ref 1, .ref 2, vI x.scope, vI x.vari, vI
 x.steps, vI z, vI c], .arr true 4 (x.bindings.map Yhc), .arr true 3 (x.macros.map Yhm)] (.sv (.agg [vI 0, vI 0, .val (.lit (.slice none 0 0)),
 vI 0, vI 0, vS (ByteArray.mk #[]), .val (.lit (.slice none 0 0)), .val (.lit (.slice none 0 0))])))) (by
 dsimp only [Yhf, Zbg]
 with_reducible repeat' (first | apply And.intro | exact zR | (intro))
 all_goals ((try simp only [std, inj] at *); with_reducible and_intros)
 all_goals try first | exact z | grind [cdF, Yhi, Yhh, Yhe])
abbrev Z5f (x : YE) (z : Int) (c : Int) (kind : Int) : Ct := ⟨198, stO x z c, [.one (.ptr 0 0), li kind], [.box [.ref 1, .ref 2, vI (nxS x.scope kind), vI x.vari, vI x.steps, vI z, vI (if nxR x.scope kind <= 99999 then c else cdF c 8)], .arr true 4 (x.bindings.map Yhc), .arr true 3 (x.macros.map Yhm)], .sv (li (nxt x.scope kind))⟩
def Z4p (x : YE) (z : Int) (c : Int) (kind : Int) : Lp (Int) := .mk 32 3 (fun x => [(0, .one (.ptr 0 0)), (1, li kind), (5, hs x 0)]) (fun x_1 => [.box [.ref
 1, .ref 2, vI x.scope, vI x.vari, vI x.steps, vI z, vI c], .arr true 4 (x.bindings.map Yhc), .arr true 3 (x.macros.map Yhm)]) (fun k => [.s (li k)]) (fun k
 => x.scope + 1 <= k /\ k <= nxR x.scope kind /\ k <= 100000) (fun k => (nxR x.scope kind - k).toNat) [.mk True (.exit 0) (fun x => [(0, .one (.ptr 0 0)), (5, hs x 0)]) (fun x_1 =>
 [.box [.ref 1, .ref 2, vI x.scope, vI x.vari, vI x.steps, vI z, vI c], .arr true 4 (x.bindings.map Yhc), .arr true 3 (x.macros.map Yhm)]) [.s (li (if
 nxR x.scope kind <= 99999 then nxR x.scope kind else 100000))]]
theorem Zds (x : YE) (z : Int) (c : Int) (kind : Int) (h : 0 <= x.scope /\ x.scope <= 99999 /\ 1 <= kind /\ kind <= 3) : Lp.Sem Tryz.prog (Yhp Tryz.f198 0) (Z4p x
 z c kind) := Yhz (fun k => .i (k <= 99999) (.c [.rd] (Zdy k) (.i (Ym1 k ≠ kind) (.r (k + 1) (.g [0, 1, 2] (k + 1) [.s (li (k + 1))])) (.o 0 [0, 1, 2] [.s (li k)]))) (.y
 false (.o 0 [0, 1, 2] [.s (li k)]))) (by
 intro k h; try dsimp only [Yhf, Yhl, Z4p] at h ⊢
 have g1 := @Y138 x.scope kind k
 have g2 := @Ynj x.scope kind
 exact zV)
theorem Zcu (x : YE) (z c kind : Int) (h : 0 <= x.scope /\ x.scope <= 99999 /\ 1 <= kind /\ kind <= 3)  : Z5f x z c kind := Yhq Tryz.call198 Tryz.func198 (.r (x.scope +
 1) (.l (Z4p x z c kind) (Zds x z c kind h) [0, 1, 2] [.s (li (x.scope + 1))] (x.scope + 1) (.t (.i (99999 < if nxR x.scope kind <= 99999 then nxR x.scope kind else
 100000) (.c [.ptr, .rd] (Zam x z c 8) (.f [] [.box [.ref 1, .ref 2, vI x.scope, vI x.vari, vI x.steps, vI z, vI (cdF c 8)], .arr true 4 (x.bindings.map Yhc),
 .arr true 3 (x.macros.map Yhm)] (.sv (li 0)))) (.f [] [.box [.ref 1, .ref 2, vI (if nxR x.scope kind <= 99999 then nxR x.scope kind else 100000), vI x.vari, vI
 x.steps, vI z, vI c], .arr true 4 (x.bindings.map Yhc), .arr true 3 (x.macros.map Yhm)] (.sv (li (if nxR x.scope kind <= 99999 then nxR x.scope kind else
 100000))))) .q))) (by
 dsimp only [Yhf, Z5f, Yhl, Z4p]
 have g2 := @Ynj x.scope kind
 with_reducible repeat' (first | apply And.intro | exact zR | (intro))
 all_goals ((try simp only [std, inj] at *); with_reducible and_intros)
 all_goals try first | exact z | grind [nxt, nxS, Yhi, Yhh, Yhe])
abbrev Z89 (s : Int) (kind : Int) : Ct := ⟨267, [], [li s, li kind], [], .sv (li (nxt s kind))⟩
def Z5g (s : Int) (kind : Int) : Lp (Int) := .mk 23 0 (fun x => [(0, li s), (1, li kind), (5, hs x 0)]) (fun x => []) (fun k => [.s (li k)]) (fun k => s + 1 <= k /\ k <= nxR s
 kind /\ k <= 100000) (fun k => (nxR s kind - k).toNat) [.mk (nxB s kind = false) (.exit 0) (fun x => []) (fun x => []) [], .mk (nxB s kind = true) .ret (fun x => [(4, hs x 0)]) (fun
 x => []) [.s (li (nxR s kind))]]
theorem Zet (s : Int) (kind : Int) (h : 0 <= s /\ s <= 99999 /\ 1 <= kind /\ kind <= 3) : Lp.Sem Tryz.prog (Yhp Tryz.f267 0) (Z5g s kind) := Yhz (fun k => .i (k <= 99999)
 (.r (s + 3) (.i (k <= s + 3) (.c [.rd] (Zaf k) (.i (Ym1 k = kind) (.o 1 [] [.s (li k)]) (.r (k + 1) (.g [] (k + 1) [.s (li (k + 1))])))) (.o 0 [] []))) (.y false (.o 0 []
 []))) (by
 intro k h; try dsimp only [Yhf, Yhl, Z5g] at h ⊢
 have g1 := @Y138 s kind k
 have g2 := @Ynj s kind
 have g3 : nxR s kind <= 99999 -> nxB s kind = true := fun h => decide_eq_true h
 have g4 : ¬ nxR s kind <= 99999 -> nxB s kind = false := fun h => decide_eq_false h
 with_reducible repeat' (first | apply And.intro | exact zR | (intro))
 all_goals ((try simp only [std, inj] at *); with_reducible and_intros)
 all_goals try first | exact z
 all_goals (try first | exact g3 (by omega) | exact g4 (by omega))
 all_goals grind)
theorem Ze4 (s kind : Int) (h : 0 <= s /\ s <= 99999 /\ 1 <= kind /\ kind <= 3)  : Z89 s kind := Yhq Tryz.call267 Tryz.func267 (.r (s + 1) (.l (Z5g s kind) (Zet s
 kind h) [] [.s (li (s + 1))] (s + 1) (.t (.s (li 0)) (.t (.s (li (nxR s kind))) .q)))) (by
 dsimp only [Yhf, Z89, Yhl, Z5g]
 have g2 := @Ynj s kind
 have g3 : nxB s kind = true -> nxt s kind = nxR s kind := fun h => if_pos (of_decide_eq_true h)
 have g4 : nxB s kind = false -> nxt s kind = 0 := fun h => if_neg (of_decide_eq_false h)
 with_reducible repeat' (first | apply And.intro | exact zR | (intro))
 all_goals ((try simp only [std, inj] at *); with_reducible and_intros)
 all_goals try first | exact z
 all_goals (try first | exact (g3 (by assumption)).symm | exact (g4 (by assumption)).symm))
theorem Yrq {x : YE} (h : Ym6 x = true) : 0 <= x.scope /\ x.scope <= 99999 /\ 0 <= x.vari /\ x.vari <= 99999 /\ 0 <= x.steps /\ x.steps <= 200 /\ (x.macros.length : Int) <= 200 /\ (x.bindings.length : Int) <= 1000 := by
 simp only [Ym6, Yrw, Bool.and_eq_true, decide_eq_true_eq] at h
 omega
set_option maxHeartbeats 4000000
abbrev Zcv (L : List Int) (n : Int) : Ct := ⟨158, [], [ll (L.map Yhd), li n], [], .sv (lb (decide (n ∈ L)))⟩
def Z6f (L : List Int) (n : Int) : Lp Nat := .mk 17 0 (fun x => [(1, li n), (7, ll (L.map Yhd)), (8, li (↑(L.map Yhd).length : Int)), (9, hs x 0)]) (fun x => [])
 (fun k => [.s (li (k : Int))]) (fun k => k <= L.length /\ L.length <= 9223372036854775807 /\ decide (n ∈ L.take k) = false) (fun k => L.length - k) [.mk (decide (n ∈ L) = false)
 (.exit 0) (fun x => []) (fun x => []) [], .mk (decide (n ∈ L) = true) .ret (fun x => [(4, hs x 0)]) (fun x => []) [.s (lb true)]]
theorem Zfo (L : List Int) (n : Int) : Lp.Sem Tryz.prog (Yhp Tryz.f158 0) (Z6f L n) := Yhz (fun k => .i ((k : Int) < (↑(L.map Yhd).length : Int)) (.x (↑k :
 Int) (L.map Yhd) [cI (L.getD k 0)] (.i (L.getD k 0 = n) (.o 1 [] [.s (lb true)]) (.r ((k : Int) + 1) (.g [] (k + 1) [.s (li ((k : Int) + 1))])))) (.o 0 [] [])) (by
 intro k h; try dsimp only [Yhf, Yhl, Z6f] at h ⊢
 with_reducible repeat' (first | apply And.intro | exact zR | (intro))
 all_goals ((try simp only [std, inj] at *); with_reducible and_intros)
 all_goals try first | exact z | grind [Yhy, Yhj, Yhi, Yhh, Yhe])
theorem Zfp (L : List Int) (n : Int)  : Zcv L n := Yhq Tryz.call158 Tryz.func158 (.z Yhd L (.l (Z6f L n) (Zfo L n) [] [.s (li 0)] 0 (.t (.s (lb false)) (.t (.s
 (lb true)) .q)))) (by
 dsimp only [Yhf, Zcv, Yhl, Z6f]
 exact zV)
abbrev Zbh (L : List Int) (n : Int) : Ct := ⟨306, [], [ll (L.map Yhd), li n], [], .sv (lb (decide (n ∈ L)))⟩
def Z5h (L : List Int) (n : Int) : Lp Nat := .mk 17 0 (fun x => [(1, li n), (7, ll (L.map Yhd)), (8, li (↑(L.map Yhd).length : Int)), (9, hs x 0)]) (fun x => [])
 (fun k => [.s (li (k : Int))]) (fun k => k <= L.length /\ L.length <= 9223372036854775807 /\ decide (n ∈ L.take k) = false) (fun k => L.length - k) [.mk (decide (n ∈ L) = false)
 (.exit 0) (fun x => []) (fun x => []) [], .mk (decide (n ∈ L) = true) .ret (fun x => [(4, hs x 0)]) (fun x => []) [.s (lb true)]]
theorem Zeu (L : List Int) (n : Int) : Lp.Sem Tryz.prog (Yhp Tryz.f306 0) (Z5h L n) := Yhz (fun k => .i ((k : Int) < (↑(L.map Yhd).length : Int)) (.x (↑k :
 Int) (L.map Yhd) [cI (L.getD k 0)] (.i (L.getD k 0 = n) (.o 1 [] [.s (lb true)]) (.r ((k : Int) + 1) (.g [] (k + 1) [.s (li ((k : Int) + 1))])))) (.o 0 [] [])) (by
 intro k h; try dsimp only [Yhf, Yhl, Z5h] at h ⊢
 with_reducible repeat' (first | apply And.intro | exact zR | (intro))
 all_goals ((try simp only [std, inj] at *); with_reducible and_intros)
 all_goals try first | exact z | grind [Yhy, Yhj, Yhi, Yhh, Yhe])
theorem Zh1 (L : List Int) (n : Int)  : Zbh L n := Yhq Tryz.call306 Tryz.func306 (.z Yhd L (.l (Z5h L n) (Zeu L n) [] [.s (li 0)] 0 (.t (.s (lb false)) (.t
 (.s (lb true)) .q)))) (by
 dsimp only [Yhf, Zbh, Yhl, Z5h]
 exact zV)
def Ykp (A B : List Int) : Bool := A.all fun n => decide (n ∈ B)
abbrev Zcw (A : List Int) (B : List Int) : Ct := ⟨261, [], [ll (A.map Yhd), ll (B.map Yhd)], [], .sv (lb (Ykp A B))⟩
def Z6g (A : List Int) (B : List Int) : Lp Nat := .mk 18 0 (fun x => [(1, ll (B.map Yhd)), (7, ll (A.map Yhd)), (8, li (↑(A.map Yhd).length : Int)), (9, hs
 x 0)]) (fun x => []) (fun k => [.s (li (k : Int))]) (fun k => k <= A.length /\ A.length <= 9223372036854775807 /\ Ykp (A.take k) B = true) (fun k => A.length - k) [.mk (Ykp A
 B = true) (.exit 0) (fun x => []) (fun x => []) [], .mk (Ykp A B = false) .ret (fun x => [(4, hs x 0)]) (fun x => []) [.s (lb false)]]
theorem Zfq (A : List Int) (B : List Int) : Lp.Sem Tryz.prog (Yhp Tryz.f261 0) (Z6g A B) := Yhz (fun k => .i ((k : Int) < (↑(A.map Yhd).length : Int)) (.x
 (k : Int) (A.map Yhd) [cI (A.getD k 0)] (.c [.rd, .rd] (Zfp B (A.getD k 0)) (.b (!decide (A.getD k 0 ∈ B)) (.o 1 [] [.s (lb false)]) (.r ((k : Int) + 1) (.g [] (k + 1)
 [.s (li ((k : Int) + 1))]))))) (.o 0 [] [])) (by
 intro k h; try dsimp only [Yhf, Yhl, Z6g] at h ⊢
 with_reducible repeat' (first | apply And.intro | exact zR | (intro))
 all_goals ((try simp only [std, inj] at *); with_reducible and_intros)
 all_goals try first | exact z | grind [Yhy, Yhj, Ykp, Yhi, Yhh, Yhe])
theorem Zcx (A B : List Int)  : Zcw A B := Yhq Tryz.call261 Tryz.func261 (.z Yhd A (.l (Z6g A B) (Zfq A B) [] [.s (li 0)] 0 (.t (.s (lb true)) (.t (.s (lb
 false)) .q)))) (by
 dsimp only [Yhf, Zcw, Yhl, Z6g]
 with_reducible repeat' (first | apply And.intro | exact zR | (intro))
 all_goals ((try simp only [std, inj] at *); with_reducible and_intros)
 all_goals try first | exact z | grind [Ykp, Yhi, Yhh, Yhe])
abbrev Zcy (A : List Int) (B : List Int) : Ct := ⟨266, [], [ll (A.map Yhd), ll (B.map Yhd)], [], .sv (lb (Ykp A B))⟩
def Z6h (A : List Int) (B : List Int) : Lp Nat := .mk 18 0 (fun x => [(1, ll (B.map Yhd)), (7, ll (A.map Yhd)), (8, li (↑(A.map Yhd).length : Int)), (9, hs
 x 0)]) (fun x => []) (fun k => [.s (li (k : Int))]) (fun k => k <= A.length /\ A.length <= 9223372036854775807 /\ Ykp (A.take k) B = true) (fun k => A.length - k) [.mk (Ykp A
 B = true) (.exit 0) (fun x => []) (fun x => []) [], .mk (Ykp A B = false) .ret (fun x => [(4, hs x 0)]) (fun x => []) [.s (lb false)]]
theorem Zfr (A : List Int) (B : List Int) : Lp.Sem Tryz.prog (Yhp Tryz.f266 0) (Z6h A B) := Yhz (fun k => .i ((k : Int) < (↑(A.map Yhd).length : Int)) (.x
 (k : Int) (A.map Yhd) [cI (A.getD k 0)] (.c [.rd, .rd] (Zh1 B (A.getD k 0)) (.b (!decide (A.getD k 0 ∈ B)) (.o 1 [] [.s (lb false)]) (.r ((k : Int) + 1) (.g [] (k + 1)
 [.s (li ((k : Int) + 1))]))))) (.o 0 [] [])) (by
 intro k h; try dsimp only [Yhf, Yhl, Z6h] at h ⊢
 with_reducible repeat' (first | apply And.intro | exact zR | (intro))
 all_goals ((try simp only [std, inj] at *); with_reducible and_intros)
 all_goals try first | exact z | grind [Yhy, Yhj, Ykp, Yhi, Yhh, Yhe])
theorem Zcz (A B : List Int)  : Zcy A B := Yhq Tryz.call266 Tryz.func266 (.z Yhd A (.l (Z6h A B) (Zfr A B) [] [.s (li 0)] 0 (.t (.s (lb true)) (.t (.s (lb
 false)) .q)))) (by
 dsimp only [Yhf, Zcy, Yhl, Z6h]
 with_reducible repeat' (first | apply And.intro | exact zR | (intro))
 all_goals ((try simp only [std, inj] at *); with_reducible and_intros)
 all_goals try first | exact z | grind [Ykp, Yhi, Yhh, Yhe])
def Yoi (t : ByteArray) (s : List Int) (b : YB) : Bool := decide (b.text = t) && Ykp b.scopes s
def cnd (L : List YB) (t : ByteArray) (s : List Int) : List YB := L.filter (Yoi t s)
theorem Y13o {L : List YB} {t : ByteArray} {s : List Int} {k : Nat} (h : k < L.length) : cnd (L.take (k + 1)) t s = if Yoi t s (L.getD k default) = true then cnd (L.take k) t s ++ [L.getD k default] else cnd (L.take k) t s := by
 unfold cnd; rw [Yhy h, List.filter_append]
 by_cases e : Yoi t s (L.getD k default) = true
 ·rw [if_pos e, List.filter_cons_of_pos e]; rfl
 ·rw [if_neg e, List.filter_cons_of_neg e]; simp
theorem Y1hx (L : List YB) (t : ByteArray) (s : List Int) (k : Nat) : (cnd (L.take k) t s).length <= k := by
 have h1 := List.length_filter_le (Yoi t s) (L.take k)
 have h2 : (L.take k).length <= k := by rw [List.length_take]; exact Nat.min_le_left _ _
 unfold cnd; omega
abbrev Z6i (L : List YB) (y : YS) : Ct := ⟨260, [], [ll (L.map Yhc), Yhu y], [], .sv (ll ((cnd L y.text y.scopes).map Yhc))⟩
def Z5i (L : List YB) (y : YS) : Lp Nat := .mk 33 0 (fun x => [(3, .one (.ptr 0 0)), (5, .one (.ref 1)), (9, ll (L.map Yhc)), (10, li (↑(List.map
 Yhc L).length : Int)), (11, hs x 0)]) (fun x => [.box (vals (Yhg y)), ho x 1]) (fun k => [.s (li (k : Int)), .o (.arr false 4 ((cnd (L.take k)
 y.text y.scopes).map Yhc))]) (fun k => k <= L.length /\ L.length <= 9223372036854775807) (fun k => L.length - k) [.mk True (.exit 0) (fun x => [(5, .one (.ref 0))]) (fun x => [ho x 0])
 [.o (.arr false 4 ((cnd L y.text y.scopes).map Yhc))]]
theorem Zev (L : List YB) (y : YS) (h : L.length <= 1048577) : Lp.Sem Tryz.prog (Yhp Tryz.f260 0) (Z5i L y) := Yhz (fun k => .i ((k : Int) < (↑(List.map
 Yhc L).length : Int)) (.x (k : Int) (L.map Yhc) (Yhx (L.getD k default)) (.i ((L.getD k default).text.data.toList = y.text.data.toList) (.c [.rd, .rd] (Zcx
 (L.getD k default).scopes y.scopes) (.b (Ykp (L.getD k default).scopes y.scopes) (.p ((((cnd (L.take k) y.text y.scopes).map Yhc).length + 1) * 56 <=
 140737488355328) (.r ((k : Int) + 1) (.g [0, 4] (k + 1) [.s (li ((k : Int) + 1)), .o (.arr false 4 ((cnd (L.take k) y.text y.scopes).map Yhc ++ [Yhx
 (L.getD k default)]))]))) (.r ((k : Int) + 1) (.g [0, 1] (k + 1) [.s (li ((k : Int) + 1)), .o (.arr false 4 ((cnd (L.take k) y.text y.scopes).map Yhc))])))) (.y
 false (.r ((k : Int) + 1) (.g [0, 1] (k + 1) [.s (li ((k : Int) + 1)), .o (.arr false 4 ((cnd (L.take k) y.text y.scopes).map Yhc))]))))) (.o 0 [1] [.o (.arr
 false 4 ((cnd (L.take k) y.text y.scopes).map Yhc))])) (by
 intro k h; try dsimp only [Yhf, Yhl, Z5i] at h ⊢
 have g1 := @Y13o L y.text y.scopes k
 have g2 := Y1hx L y.text y.scopes k
 have g3 : L.length <= k -> L.take k = L := fun h => List.take_of_length_le h
 with_reducible repeat' (first | apply And.intro | exact zR | (intro))
 all_goals ((try simp only [std, inj] at *); with_reducible and_intros)
 all_goals try first | exact z | grind [Yoi, Ykg, Yhi, Yhh, Yhe])
theorem Z12 (L : List YB) (y : YS) (h : L.length <= 1048577)  : Z6i L y := Yhq Tryz.call260 Tryz.func260 (.w (.bool true) (.z Yhc L (.l (Z5i L y)
 (Zev L y h) [0, 1] [.s (li 0), .o (.arr false 4 [])] 0 (.t (.w (.ghost (.lock 0)) (.s (ll ((cnd L y.text y.scopes).map Yhc)))) .q)))) (by
 dsimp only [Yhf, Z6i, Yhl, Z5i]
 have g1 : cnd (L.take 0) y.text y.scopes = [] := rfl
 exact zV)
def Ykw (a b : YB) : YB := if a.scopes.length < b.scopes.length then b else a
def Yip (C : List YB) : YB := C.foldl Ykw (C.getD 0 default)
theorem Y1ef (x : YB) : Yip [x] = x := by simp [Yip, Ykw]
theorem Y10y {C : List YB} (x : YB) (h : C ≠ []) : Yip (C ++ [x]) = Ykw (Yip C) x := by
 cases C with
 | nil => exact absurd rfl h
 | cons a r => simp only [Yip, List.foldl_append]; rfl
def amb (C : List YB) : Bool := C.all fun b => Ykp b.scopes (Yip C).scopes
def rsC (L : List YB) (t : ByteArray) (s : List Int) : Int := if cnd L t s = [] then 0 else if amb (cnd L t s) = true then 1 else 2
def rsB (L : List YB) (t : ByteArray) (s : List Int) : YB := if rsC L t s = 1 then Yip (cnd L t s) else ⟨mkS [], [], 0, 0⟩
theorem Y1e3 {C : List YB} : ∀ (a : YB), C.foldl Ykw a = a ∨ C.foldl Ykw a ∈ C := by
 induction C with
 | nil => intro a; exact .inl rfl
 | cons x r ih =>
  intro a
  rw [List.foldl_cons]
  rcases ih (Ykw a x) with h | h
  ·rw [h]; unfold Ykw; split
   ·exact .inr List.mem_cons_self
   ·exact .inl rfl
  ·exact .inr (List.mem_cons_of_mem _ h)
theorem Yww {C : List YB} (h : C ≠ []) : Yip C ∈ C := by
 cases C with
 | nil => exact absurd rfl h
 | cons a r =>
  rcases Y1e3 (C := a :: r) ((a :: r).getD 0 default) with h | h
  ·unfold Yip; rw [h]; exact List.mem_cons_self
  ·exact h
theorem Y1l2 (L : List YB) (t : ByteArray) (s : List Int) : Yhb wB (cnd L t s) <= Yhb wB L := by
 induction L with
 | nil => exact Nat.le_refl _
 | cons x r ih =>
  unfold cnd at ih ⊢
  by_cases e : Yoi t s x = true
  ·rw [List.filter_cons_of_pos e]; simp only [Yhb]; omega
  ·rw [List.filter_cons_of_neg e]; simp only [Yhb]; omega
theorem Y13w {L : List YB} {t : ByteArray} {s : List Int} (h : cnd L t s ≠ []) : wB (Yip (cnd L t s)) <= Yhb wB L := by
 have h1 := Yi4 wB (Yww h)
 have h2 := Y1l2 L t s
 omega
theorem Y14u {C : List YB} {k : Nat} (hk : k < C.length) (h : Ykp (C.getD k default).scopes (Yip C).scopes = false) : amb C = false := by
 unfold amb; rw [List.all_eq_false]; exact ⟨_, Yhj hk, by rw [h]; decide⟩
def Yt7 (C : List YB) (k : Nat) : Bool := (C.take k).all fun b => Ykp b.scopes (Yip C).scopes
theorem Y10l {C : List YB} {k : Nat} (hk : k < C.length) (h0 : Yt7 C k = true) (h : Ykp (C.getD k default).scopes (Yip C).scopes = true) : Yt7 C (k + 1) = true := by
 unfold Yt7 at *; rw [Yhy hk, List.all_append, h0]; simpa using h
theorem Y15q {C : List YB} {k : Nat} (hk : C.length <= k) (h0 : Yt7 C k = true) : amb C = true := by
 unfold Yt7 at h0; rwa [List.take_of_length_le hk] at h0
abbrev Z7p (L : List YB) (y : YS) : Ct := ⟨197, [], [ll (L.map Yhc), Yhu y], [], .tup [Ym5 (rsB L y.text y.scopes), li (rsC L y.text y.scopes)]⟩
def Z6j (L : List YB) (y : YS) : Lp Nat := .mk 56 0 (fun x => [(4, .one (.ptr 0 0)), (7, .one (.ptr 1 0)), (37, ll ((cnd L y.text
 y.scopes).map Yhc)), (38, li (↑((cnd L y.text y.scopes).map Yhc).length : Int)), (39, hs x 0)]) (fun x => [.box [vS (ByteArray.mk #[]), .val (.lit (.slice none 0
 0)), vI 0, vI 0], .box (vals (Yhx (Yip (cnd L y.text y.scopes))))]) (fun k => [.s (li (k : Int))]) (fun k => k <= (cnd L y.text y.scopes).length /\ (cnd L y.text
 y.scopes).length <= 9223372036854775807 /\ 0 < (cnd L y.text y.scopes).length /\ Yt7 (cnd L y.text y.scopes) k = true) (fun k => (cnd L y.text y.scopes).length - k) [.mk (amb (cnd L
 y.text y.scopes) = true) (.exit 2) (fun x => [(4, .one (.ptr 0 0)), (7, .one (.ptr 1 0))]) (fun x => [.box [vS (ByteArray.mk #[]), .val (.lit (.slice none 0
 0)), vI 0, vI 0], .box (vals (Yhx (Yip (cnd L y.text y.scopes))))]) [], .mk (amb (cnd L y.text y.scopes) = false) .ret (fun x => [(4, .one (.ptr 0 0)), (5, hs x 1)])
 (fun x => [ho x 0]) [.o (.box [vS (mkS []), .val (.lit (.slice none 0 0)), vI 0, vI 0]), .s (li 2)]]
def Z6k (L : List YB) (y : YS) : Lp Nat := .mk 56 0 (fun x => [(4, .one (.ptr 0 0)), (6, ll ((cnd L y.text y.scopes).map Yhc)), (7, .one (.ptr 1
 0)), (22, ll ((cnd L y.text y.scopes).map Yhc)), (23, li (↑((cnd L y.text y.scopes).map Yhc).length : Int)), (24, hs x 0)]) (fun x => [.box [vS (ByteArray.mk
 #[]), .val (.lit (.slice none 0 0)), vI 0, vI 0], ho x 1]) (fun k => [.s (li (k : Int)), .o (.box (vals (Yhx (List.foldl Ykw ((cnd L y.text y.scopes).getD 0
 default) (List.take k (cnd L y.text y.scopes))))))]) (fun k => k <= (cnd L y.text y.scopes).length /\ (cnd L y.text y.scopes).length <= 9223372036854775807 /\ 0 < (cnd L y.text
 y.scopes).length) (fun k => (cnd L y.text y.scopes).length - k) [.mk True (.exit 0) (fun x => [(4, .one (.ptr 0 0)), (6, ll ((cnd L y.text y.scopes).map Yhc)), (7,
 .one (.ptr 1 0))]) (fun x => [.box [vS (ByteArray.mk #[]), .val (.lit (.slice none 0 0)), vI 0, vI 0], ho x 0]) [.o (.box (vals (Yhx (Yip (cnd L y.text
 y.scopes)))))]]
theorem Zfs (L : List YB) (y : YS) (h : L.length <= 1048577 /\ Yhb wB L <= 1048577) : Lp.Sem Tryz.prog (Yhp Tryz.f197 1) (Z6j L y) := Yhz (fun k => .i ((↑k
 : Int) < (↑((cnd L y.text y.scopes).map Yhc).length : Int)) (.x (k : Int) ((cnd L y.text y.scopes).map Yhc) (Yhx ((cnd L y.text y.scopes).getD k
 default)) (.c [.rd, .rd] (Zcx ((cnd L y.text y.scopes).getD k default).scopes (Yip (cnd L y.text y.scopes)).scopes) (.b (!Ykp ((cnd L y.text y.scopes).getD k default).scopes
 (Yip (cnd L y.text y.scopes)).scopes) (.o 1 [0] [.o (.box [vS (ByteArray.mk #[]), .val (.lit (.slice none 0 0)), vI 0, vI 0]), .s (li 2)]) (.r ((k : Int) + 1) (.g
 [0, 1] (k + 1) [.s (li ((k : Int) + 1))]))))) (.o 0 [0, 1] [])) (by
 intro k h; try dsimp only [Yhf, Yhl, Z6j] at h ⊢
 have g1 := @Y14u (cnd L y.text y.scopes) k
 have g2 := @Y10l (cnd L y.text y.scopes) k
 have g3 := @Y15q (cnd L y.text y.scopes) k
 with_reducible repeat' (first | apply And.intro | exact zR | (intro) | apply Z12 | apply Z8)
 all_goals ((try simp only [std, inj] at *); with_reducible and_intros)
 all_goals try with_reducible first | apply Z12 | apply Z8
 all_goals (try exact zG))
theorem Zft (L : List YB) (y : YS) (h : L.length <= 1048577 /\ Yhb wB L <= 1048577) : Lp.Sem Tryz.prog (Yhp Tryz.f197 0) (Z6k L y) := Yhz (fun k => .i ((↑k
 : Int) < (↑((cnd L y.text y.scopes).map Yhc).length : Int)) (.x (k : Int) ((cnd L y.text y.scopes).map Yhc) (Yhx ((cnd L y.text y.scopes).getD k
 default)) (.z Yhd ((cnd L y.text y.scopes).getD k default).scopes (.z Yhd (List.foldl Ykw ((cnd L y.text y.scopes).getD 0 default) (List.take k (cnd L y.text y.scopes))).scopes
 (.i ((↑((List.foldl Ykw ((cnd L y.text y.scopes).getD 0 default) (List.take k (cnd L y.text y.scopes))).scopes.map Yhd).length : Int) < (↑(((cnd L y.text
 y.scopes).getD k default).scopes.map Yhd).length : Int)) (.r ((k : Int) + 1) (.g [0, 1] (k + 1) [.s (li ((k : Int) + 1)), .o (.box (vals (Yhx ((cnd L y.text y.scopes).getD k
 default))))])) (.r ((k : Int) + 1) (.g [0, 1] (k + 1) [.s (li ((k : Int) + 1)), .o (.box (vals (Yhx (List.foldl Ykw ((cnd L y.text y.scopes).getD 0 default) (List.take k
 (cnd L y.text y.scopes))))))])))))) (.o 0 [0, 1] [.o (.box (vals (Yhx (List.foldl Ykw ((cnd L y.text y.scopes).getD 0 default) (List.take k (cnd L y.text y.scopes))))))]))
 (by
 intro k h; try dsimp only [Yhf, Yhl, Z6k] at h ⊢
 have g1 := @Ynb _ _ _ Ykw ((cnd L y.text y.scopes).getD 0 default) (cnd L y.text y.scopes) k
 have g2 : ∀ a b, Ykw a b = if a.scopes.length < b.scopes.length then b else a := fun _ _ => rfl
 have g3 : (cnd L y.text y.scopes).length <= k -> (cnd L y.text y.scopes).take k = cnd L y.text y.scopes := fun h => List.take_of_length_le h
 have g4 : Yip (cnd L y.text y.scopes) = (cnd L y.text y.scopes).foldl Ykw ((cnd L y.text y.scopes).getD 0 default) := rfl
 with_reducible repeat' (first | apply And.intro | exact zR | (intro) | apply Z12 | apply Z8)
 all_goals ((try simp only [std, inj] at *); with_reducible and_intros)
 all_goals try with_reducible first | apply Z12 | apply Z8
 all_goals (try exact zG))
theorem Zfu (L : List YB) (y : YS) (h : L.length <= 1048577 /\ Yhb wB L <= 1048577)  : Z7p L y := Yhq Tryz.call197 Tryz.func197 (.d [.rd, .rd] (Z6i L y) (.z
 Yhc (cnd L y.text y.scopes) (.i ((↑((cnd L y.text y.scopes).map Yhc).length : Int) = 0) (.w (.ghost (.nilbox 1 1 true 1)) (.w (.ghost (.lock 2)) (.f [] [] (.tup
 [.agg [vS (ByteArray.mk #[]), vL [], vI 0, vI 0], li 0])))) (.w (.cells (Yhx ((cnd L y.text y.scopes).getD 0 default))) (.p ((0 : Int) <= 0 /\ ((cnd L
 y.text y.scopes).map Yhc)[0]? = some (Yhx ((cnd L y.text y.scopes).getD 0 default))) (.z Yhc (cnd L y.text y.scopes) (.l (Z6k L y) (Zft L y h) [1, 2] [.s (li 0), .o
 (.box (vals (Yhx ((cnd L y.text y.scopes).getD 0 default))))] 0 (.t (.z Yhc (cnd L y.text y.scopes) (.l (Z6j L y) (Zfs L y h) [0, 1] [.s (li 0)] 0 (.t (.d
 [.rd] (Z3u [Yip (cnd L y.text y.scopes)]) (.p ((0 : Int) <= 0 /\ 0 < 1) (.w (.cells (Yhx (Yip (cnd L y.text y.scopes)))) (.p (some (Yhx (Yip (cnd L y.text
 y.scopes))) = some (Yhx (Yip (cnd L y.text y.scopes)))) (.w (.ghost (.lock 3)) (.f [] [] (.tup [.agg (vals (Yhx (Yip (cnd L y.text y.scopes)))), li 1]))))))) (.t
 (.w (.ghost (.nilbox 0 1 true 1)) (.w (.ghost (.lock 1)) (.f [] [] (.tup [.agg [vS (mkS []), vL [], vI 0, vI 0], li 2])))) .q)))) .q)))))))) (by
 dsimp only [Yhf, Z7p, Yhl, Z6k, Z6j]
 have g1 : 0 < (cnd L y.text y.scopes).length -> cnd L y.text y.scopes ≠ [] := fun h => List.length_pos_iff.1 h
 have g2 : (cnd L y.text y.scopes).length = 0 -> cnd L y.text y.scopes = [] := fun h => List.length_eq_zero_iff.1 h
 have g3 := @Y13w L y.text y.scopes
 have g4 : rsC L y.text y.scopes = if cnd L y.text y.scopes = [] then 0 else if amb (cnd L y.text y.scopes) = true then 1 else 2 := rfl
 have g5 : rsC L y.text y.scopes = 1 -> rsB L y.text y.scopes = Yip (cnd L y.text y.scopes) := fun h => if_pos h
 have g6 : ¬ rsC L y.text y.scopes = 1 -> rsB L y.text y.scopes = ⟨mkS [], [], 0, 0⟩ := fun h => if_neg h
 have g7 : Yt7 (cnd L y.text y.scopes) 0 = true := rfl
 have g8 : ∀ b : YB, [b].getD 0 default = b := fun b => rfl
 have g9 : Yhb wB [Yip (cnd L y.text y.scopes)] = wB (Yip (cnd L y.text y.scopes)) := rfl
 have p1 : ¬ rsC L y.text y.scopes = 1 -> SV.agg [vS (mkS []), vL [], vI 0, vI 0] = SV.agg (vals (Yhx (rsB L y.text y.scopes))) := fun h => by rw [g6 h]; rfl
 have p2 : rsC L y.text y.scopes = 1 -> SV.agg [vS (Yip (cnd L y.text y.scopes)).text, vL ((Yip (cnd L y.text y.scopes)).scopes.map Yhd), vI (Yip (cnd L y.text y.scopes)).kind, vI (Yip (cnd L y.text y.scopes)).number] = SV.agg (vals (Yhx (rsB L y.text y.scopes))) := fun h => by rw [g5 h]; rfl
 with_reducible repeat' (first | apply And.intro | exact zR | (intro) | apply Z12 | apply Z8)
 all_goals ((try simp only [std, inj] at *); with_reducible and_intros)
 all_goals try with_reducible first | apply Z12 | apply Z8
 all_goals (try exact zG))
def bsI (L : List YB) (t : ByteArray) (s : List Int) : Nat -> Int
 | 0 => -1
 | k + 1 => if Yoi t s (L.getD k default) = true /\ (bsI L t s k < 0 ∨ (L.getD (bsI L t s k).toNat default).scopes.length < (L.getD k default).scopes.length) then (k : Int) else bsI L t s k
theorem Yy9 (L : List YB) (t : ByteArray) (s : List Int) : ∀ k, k <= L.length -> -1 <= bsI L t s k /\ bsI L t s k < k /\ (bsI L t s k < 0 ↔ cnd (L.take k) t s = []) /\ (0 <= bsI L t s k -> L.getD (bsI L t s k).toNat default = Yip (cnd (L.take k) t s))
 | 0, _ => by simp [bsI, cnd]
 | k + 1, hk => by
  obtain ⟨h1, h2, h3, h4⟩ := Yy9 L t s k (by omega)
  have e := @Y13o L t s k (by omega)
  simp only [bsI]
  by_cases c : Yoi t s (L.getD k default) = true
  ·rw [if_pos c] at e
   by_cases c2 : bsI L t s k < 0
   ·rw [if_pos ⟨c, .inl c2⟩, e, h3.1 c2]
    refine ⟨by omega, by omega, ⟨fun h => by omega, fun h => by simp at h⟩, fun _ => ?_⟩
    rw [Int.toNat_natCast, List.nil_append, Y1ef]
   ·have hne : cnd (L.take k) t s ≠ [] := fun h => c2 (h3.2 h)
    have hb := h4 (by omega)
    by_cases c3 : (L.getD (bsI L t s k).toNat default).scopes.length < (L.getD k default).scopes.length
    ·rw [if_pos ⟨c, .inr c3⟩, e]
     refine ⟨by omega, by omega, ⟨fun h => by omega, fun h => by simp at h⟩, fun _ => ?_⟩
     rw [Int.toNat_natCast, Y10y _ hne, Ykw, if_pos (by rw [<- hb]; exact c3)]
    ·rw [if_neg (by rintro ⟨_, h | h⟩ <;> contradiction), e]
     refine ⟨h1, by omega, ⟨fun h => absurd h c2, fun h => by simp at h⟩, fun _ => ?_⟩
     rw [Y10y _ hne, Ykw, if_neg (by rw [<- hb]; exact c3)]; exact hb
  ·rw [if_neg (fun h => c h.1), e, if_neg c]
   exact ⟨h1, by omega, h3, h4⟩
def Ywu (L : List YB) (t : ByteArray) (s : List Int) (k : Nat) : Bool := (L.take k).all fun b => !Yoi t s b || Ykp b.scopes (Yip (cnd L t s)).scopes
theorem Y1bm {L : List YB} {t : ByteArray} {s : List Int} {k : Nat} (hk : k < L.length) (h0 : Ywu L t s k = true) (h : Yoi t s (L.getD k default) = false ∨ Ykp (L.getD k default).scopes (Yip (cnd L t s)).scopes = true) : Ywu L t s (k + 1) = true := by
 unfold Ywu at *; rw [Yhy hk, List.all_append, h0]; simpa using h
theorem Y1ek {L : List YB} {t : ByteArray} {s : List Int} {k : Nat} (hk : L.length <= k) (h0 : Ywu L t s k = true) : amb (cnd L t s) = true := by
 unfold Ywu at h0; rw [List.take_of_length_le hk, List.all_eq_true] at h0
 unfold amb; rw [List.all_eq_true]
 intro x hx
 have h1 := List.mem_filter.1 hx
 have := h0 x h1.1
 rw [h1.2] at this; simpa using this
theorem Y1bv {L : List YB} {t : ByteArray} {s : List Int} {k : Nat} (hk : k < L.length) (h1 : Yoi t s (L.getD k default) = true) (h : Ykp (L.getD k default).scopes (Yip (cnd L t s)).scopes = false) : amb (cnd L t s) = false := by
 unfold amb; rw [List.all_eq_false]; exact ⟨_, List.mem_filter.2 ⟨Yhj hk, h1⟩, by rw [h]; decide⟩
abbrev Z65 (L : List YB) (y : YS) : Ct := ⟨200, [], [ll (L.map Yhc), Yhu y], Yx2 (rsB L y.text y.scopes), .tup [Ywn (rsB L y.text y.scopes) 0, li (rsC L y.text y.scopes)]⟩
def Z6l (L : List YB) (y : YS) : Lp Nat := .mk 87 0 (fun x => [(0, ll (L.map Yhc)), (3, .one (.ptr 0 0)), (4, .one (.ptr 1 0)), (6, li (bsI L
 y.text y.scopes L.length)), (51, ll (L.map Yhc)), (52, li (↑(L.map Yhc).length : Int)), (53, hs x 0)]) (fun x => [.box (vals (Yhg y)), .box [vS
 (ByteArray.mk #[]), .val (.lit (.slice none 0 0)), vI 0, vI 0]]) (fun k => [.s (li (k : Int))]) (fun k => k <= L.length /\ L.length <= 9223372036854775807 /\ 0 <= bsI L
 y.text y.scopes L.length /\ Ywu L y.text y.scopes k = true) (fun k => L.length - k) [.mk (amb (cnd L y.text y.scopes) = true) (.exit 2) (fun x => [(0, ll (L.map Yhc)),
 (4, .one (.ptr 0 0)), (6, li (bsI L y.text y.scopes L.length))]) (fun x => [.box [vS (ByteArray.mk #[]), .val (.lit (.slice none 0 0)), vI 0, vI 0]]) [], .mk (amb
 (cnd L y.text y.scopes) = false) .ret (fun x => [(4, .one (.ptr 0 0)), (5, hs x 1)]) (fun x => [ho x 0]) [.o (.box [vS (mkS []), .val (.lit (.slice none 0 0)), vI
 0, vI 0]), .s (li 2)]]
def Z6m (L : List YB) (y : YS) : Lp Nat := .mk 87 0 (fun x => [(0, ll (L.map Yhc)), (3, .one (.ptr 0 0)), (4, .one (.ptr 1 0)), (6, hs x 1), (11,
 ll (L.map Yhc)), (12, li (↑(L.map Yhc).length : Int)), (13, hs x 0)]) (fun x => [.box (vals (Yhg y)), .box [vS (ByteArray.mk #[]), .val (.lit
 (.slice none 0 0)), vI 0, vI 0]]) (fun k => [.s (li (k : Int)), .s (li (bsI L y.text y.scopes k))]) (fun k => k <= L.length /\ L.length <= 9223372036854775807) (fun k =>
 L.length - k) [.mk True (.exit 0) (fun x => [(0, ll (L.map Yhc)), (3, .one (.ptr 0 0)), (4, .one (.ptr 1 0)), (6, hs x 0)]) (fun x => [.box (vals (Yhg y)),
 .box [vS (ByteArray.mk #[]), .val (.lit (.slice none 0 0)), vI 0, vI 0]]) [.s (li (bsI L y.text y.scopes L.length))]]
theorem Zfv (L : List YB) (y : YS) (h : L.length <= 1048577 /\ Yhb wB L <= 1048577) : Lp.Sem Tryz.prog (Yhp Tryz.f200 1) (Z6l L y) := Yhz (fun k => .i ((↑k
 : Int) < (↑(L.map Yhc).length : Int)) (.x (k : Int) (L.map Yhc) (Yhx (L.getD k default)) (.w (.draw []) (.i ((L.getD k default).text.data.toList =
 y.text.data.toList) (.c [.rd, .rd] (Zcz (L.getD k default).scopes y.scopes) (.b (Ykp (L.getD k default).scopes y.scopes) (.x (bsI L y.text y.scopes L.length) (List.map
 Yhc L) (Yhx (L.getD (bsI L y.text y.scopes L.length).toNat default)) (.c [.rd, .rd] (Zcz (L.getD k default).scopes (L.getD (bsI L y.text y.scopes L.length).toNat
 default).scopes) (.b (!Ykp (L.getD k default).scopes (L.getD (bsI L y.text y.scopes L.length).toNat default).scopes) (.o 1 [1] [.o (.box [vS (ByteArray.mk #[]), .val
 (.lit (.slice none 0 0)), vI 0, vI 0]), .s (li 2)]) (.r ((k : Int) + 1) (.g [0, 1] (k + 1) [.s (li ((k : Int) + 1))]))))) (.y false (.r ((k : Int) + 1) (.g [0, 1] (k +
 1) [.s (li ((k : Int) + 1))]))))) (.y false (.y false (.r ((k : Int) + 1) (.g [0, 1] (k + 1) [.s (li ((k : Int) + 1))]))))))) (.o 0 [1] [])) (by
 intro k h; try dsimp only [Yhf, Yhl, Z6l] at h ⊢
 have g1 := Yy9 L y.text y.scopes L.length
 have g2 : L.take L.length = L := List.take_length
 have g3 := @Y1bm L y.text y.scopes k
 have g4 := @Y1ek L y.text y.scopes k
 have g5 := @Y1bv L y.text y.scopes k
 with_reducible repeat' (first | apply And.intro | exact zR | (intro) | apply Zo)
 all_goals ((try simp only [std, inj] at *); with_reducible and_intros)
 all_goals try with_reducible first | apply Zo
 all_goals try first | exact z | grind [Yoi, Ykg, Yhi, Yhh, Yhe])
theorem Zfw (L : List YB) (y : YS) (h : L.length <= 1048577 /\ Yhb wB L <= 1048577) : Lp.Sem Tryz.prog (Yhp Tryz.f200 0) (Z6m L y) := Yhz (fun k => .i ((↑k
 : Int) < (↑(L.map Yhc).length : Int)) (.x (k : Int) (L.map Yhc) (Yhx (L.getD k default)) (.w (.draw []) (.i ((L.getD k default).text.data.toList =
 y.text.data.toList) (.c [.rd, .rd] (Zcz (L.getD k default).scopes y.scopes) (.b (Ykp (L.getD k default).scopes y.scopes) (.i (bsI L y.text y.scopes k < 0) (.y true (.r ((↑k :
 Int) + 1) (.g [0, 1] (k + 1) [.s (li ((k : Int) + 1)), .s (li (k : Int))]))) (.x (bsI L y.text y.scopes k) (L.map Yhc) (Yhx (L.getD (bsI L y.text y.scopes
 k).toNat default)) (.z Yhd (L.getD k default).scopes (.z Yhd (L.getD (bsI L y.text y.scopes k).toNat default).scopes (.i ((↑((L.getD (bsI L y.text y.scopes
 k).toNat default).scopes.map Yhd).length : Int) < (↑((L.getD k default).scopes.map Yhd).length : Int)) (.r ((k : Int) + 1) (.g [0, 1] (k + 1) [.s (li ((k : Int) + 1)), .s (li (↑k
 : Int))])) (.r ((k : Int) + 1) (.g [0, 1] (k + 1) [.s (li ((k : Int) + 1)), .s (li (bsI L y.text y.scopes k))]))))))) (.y false (.r ((k : Int) + 1) (.g [0, 1] (k + 1) [.s (li
 ((k : Int) + 1)), .s (li (bsI L y.text y.scopes k))]))))) (.y false (.y false (.r ((k : Int) + 1) (.g [0, 1] (k + 1) [.s (li ((k : Int) + 1)), .s (li (bsI L y.text y.scopes
 k))]))))))) (.o 0 [0, 1] [.s (li (bsI L y.text y.scopes k))])) (by
 intro k h; try dsimp only [Yhf, Yhl, Z6m] at h ⊢
 have g1 := Yy9 L y.text y.scopes k
 have g2 : bsI L y.text y.scopes (k + 1) = if Yoi y.text y.scopes (L.getD k default) = true /\ (bsI L y.text y.scopes k < 0 ∨ (L.getD (bsI L y.text y.scopes k).toNat default).scopes.length < (L.getD k default).scopes.length) then (k : Int) else bsI L y.text y.scopes k := rfl
 with_reducible repeat' (first | apply And.intro | exact zR | (intro) | apply Zo)
 all_goals ((try simp only [std, inj] at *); with_reducible and_intros)
 all_goals try with_reducible first | apply Zo
 all_goals try first | exact z | grind [Yoi, Ykg, Yhi, Yhh, Yhe])
theorem Za0 (L : List YB) (y : YS) (h : L.length <= 1048577 /\ Yhb wB L <= 1048577)  : Z65 L y := Yhq Tryz.call200 Tryz.func200 (.z Yhc L (.l (Z6m L y)
 (Zfw L y h) [0, 1] [.s (li 0), .s (li (-1 : Int))] 0 (.t (.i (bsI L y.text y.scopes L.length < 0) (.w (.ghost (.nilbox 1 1 true 1)) (.f [2] [.arr true 1 []] (.tup
 [.agg [vS (ByteArray.mk #[]), .ref 0, vI 0, vI 0], li 0]))) (.z Yhc L (.l (Z6l L y) (Zfv L y h) [0, 1] [.s (li 0)] 0 (.t (.x (bsI L y.text y.scopes L.length)
 (L.map Yhc) (Yhx (L.getD (bsI L y.text y.scopes L.length).toNat default)) (.d [.rd] (Z4i (L.getD (bsI L y.text y.scopes L.length).toNat default)) (.f [1]
 [.arr true 1 ((L.getD (bsI L y.text y.scopes L.length).toNat default).scopes.map Yhd)] (.tup [.agg [vS (L.getD (bsI L y.text y.scopes L.length).toNat default).text,
 .ref 0, vI (L.getD (bsI L y.text y.scopes L.length).toNat default).kind, vI (L.getD (bsI L y.text y.scopes L.length).toNat default).number], li 1])))) (.t (.w (.ghost (.nilbox 0
 1 true 1)) (.f [1] [.arr true 1 []] (.tup [.agg [vS (mkS []), .ref 0, vI 0, vI 0], li 2]))) .q))))) .q))) (by
 dsimp only [Yhf, Z65, Yhl, Z6m, Z6l]
 have g1 := Yy9 L y.text y.scopes L.length
 have g2 : L.take L.length = L := List.take_length
 have g3 := @Y13w L y.text y.scopes
 have g4 : rsC L y.text y.scopes = if cnd L y.text y.scopes = [] then 0 else if amb (cnd L y.text y.scopes) = true then 1 else 2 := rfl
 have g5 : rsC L y.text y.scopes = 1 -> rsB L y.text y.scopes = Yip (cnd L y.text y.scopes) := fun h => if_pos h
 have g6 : ¬ rsC L y.text y.scopes = 1 -> rsB L y.text y.scopes = ⟨mkS [], [], 0, 0⟩ := fun h => if_neg h
 have g7 : Ywu L y.text y.scopes 0 = true := rfl
 have g8 : bsI L y.text y.scopes 0 = -1 := rfl
 with_reducible repeat' (first | apply And.intro | exact zR | (intro) | apply Zo)
 all_goals ((try simp only [std, inj] at *); with_reducible and_intros)
 all_goals try with_reducible first | apply Zo
 all_goals (try exact zG))
def mng (L : List YB) (a b : YS) : Bool := if rsC L a.text a.scopes = 0 /\ rsC L b.text b.scopes = 0 then decide (a.text = b.text) else decide (rsC L a.text a.scopes = 1) && decide (rsC L b.text b.scopes = 1) && decide ((rsB L a.text a.scopes).kind = (rsB L b.text b.scopes).kind) && decide ((rsB L a.text a.scopes).number = (rsB L b.text b.scopes).number)
abbrev Z8a (L : List YB) (a : YS) (b : YS) : Ct := ⟨184, [], [ll (L.map Yhc), Yhu a, Yhu b], [], .sv (lb (mng L a b))⟩
theorem Zan (L : List YB) (a b : YS) (h : L.length <= 1048577 /\ Yhb wB L <= 1048577)  : Z8a L a b := Yhq Tryz.call184 Tryz.func184 (.d [.rd, .rd] (Z7p L a)
 (.d [.rd, .rd] (Z7p L b) (.i (rsC L a.text a.scopes = 0) (.i (rsC L b.text b.scopes = 0) (.s (lb (decide (a.text.data.toList = b.text.data.toList)))) (.i (rsC L a.text
 a.scopes = 1) (.i (rsC L b.text b.scopes = 1) (.i ((rsB L a.text a.scopes).kind = (rsB L b.text b.scopes).kind) (.s (lb (decide ((rsB L a.text a.scopes).number = (rsB L b.text
 b.scopes).number)))) (.s (lb false))) (.y false (.s (lb false)))) (.y false (.y false (.s (lb false)))))) (.y false (.i (rsC L a.text a.scopes = 1) (.i (rsC L b.text b.scopes = 1)
 (.i ((rsB L a.text a.scopes).kind = (rsB L b.text b.scopes).kind) (.s (lb (decide ((rsB L a.text a.scopes).number = (rsB L b.text b.scopes).number)))) (.s (lb false))) (.y false
 (.s (lb false)))) (.y false (.y false (.s (lb false))))))))) (by
 dsimp only [Yhf, Z8a]
 with_reducible repeat' (first | apply And.intro | exact zR | (intro) | apply Zfu)
 all_goals ((try simp only [std, inj] at *); with_reducible and_intros)
 all_goals try with_reducible first | apply Zfu
 all_goals try first | exact z | grind [mng, Ykg, Yhi, Yhh, Yhe])
abbrev Z8b (L : List YB) (a : YS) (b : YS) : Ct := ⟨192, [], [ll (L.map Yhc), Yhu a, Yhu b], [], .sv (lb (mng L a b))⟩
theorem Ze5 (L : List YB) (a b : YS) (h : L.length <= 1048577 /\ Yhb wB L <= 1048577)  : Z8b L a b := Yhq Tryz.call192 Tryz.func192 (.d [.rd, .rd] (Z65 L a)
 (.d [.rd, .rd] (Z65 L b) (.i (rsC L a.text a.scopes = 1) (.i (rsC L b.text b.scopes = 1) (.i ((rsB L a.text a.scopes).kind = (rsB L b.text b.scopes).kind) (.s (lb (decide
 ((rsB L a.text a.scopes).number = (rsB L b.text b.scopes).number)))) (.s (lb false))) (.i (rsC L a.text a.scopes = 0) (.i (rsC L b.text b.scopes = 0) (.s (lb (decide
 (a.text.data.toList = b.text.data.toList)))) (.s (lb false))) (.y false (.s (lb false))))) (.y false (.i (rsC L a.text a.scopes = 0) (.i (rsC L b.text b.scopes = 0) (.s (lb
 (decide (a.text.data.toList = b.text.data.toList)))) (.s (lb false))) (.y false (.s (lb false)))))))) (by
 dsimp only [Yhf, Z8b]
 with_reducible repeat' (first | apply And.intro | exact zR | (intro) | apply Za0)
 all_goals ((try simp only [std, inj] at *); with_reducible and_intros)
 all_goals try with_reducible first | apply Za0
 all_goals try first | exact z | grind [mng, Ykg, Yhi, Yhh, Yhe])
def Yqc (p f : YS) : YC := ⟨p, 0, f, []⟩
mutual
/-- the variables of a pattern, in their order -/
def nm (H : YS -> Bool) (A : List YS -> Int) : YS -> Int -> List YC
 | ⟨k, n, t, s, l⟩, d => if k = 1 then (if Yiv ⟨k, n, t, s, l⟩ = true ∨ H ⟨k, n, t, s, l⟩ = true then [] else [Yoc ⟨k, n, t, s, l⟩ d]) else if k = 0 then nms H A l 0 (A l) d else []
def nms (H : YS -> Bool) (A : List YS -> Int) : List YS -> Int -> Int -> Int -> List YC
 | [], _, _, _ => []
 | x :: r, i, a, d => (if i = a then [] else nm H A x (if i + 1 = a then d + 1 else d)) ++ nms H A r (i + 1) a d
end
theorem Ymw (H : YS -> Bool) (A : List YS -> Int) (p : YS) (d : Int) : nm H A p d = if p.kind = 1 then (if Yiv p = true ∨ H p = true then [] else [Yoc p d]) else if p.kind = 0 then nms H A p.items 0 (A p.items) d else [] := by cases p; simp only [nm]
def upC (x : YC) : YC := ⟨x.name, x.depth + 1, x.form, x.each⟩
def rp (V : List YC) (R : List (List YC)) : List YC := (List.range V.length).map fun i => ⟨(V.getD i default).name, (V.getD i default).depth, (V.getD i default).form, (V.getD i default).each ++ R.map fun c => c.getD i default⟩
theorem Ymg (V : List YC) (R : List (List YC)) : (rp V R).length = V.length := by simp [rp]
def mtr (g : YS -> Option (List YC)) : List YS -> Option (List (List YC))
 | [] => some []
 | f :: r => match g f with
  | none => none
  | some c => match mtr g r with
   | none => none
   | some R => some (c :: R)
def Ymq (a : Int) (n m : Nat) : Int := if 0 <= a then (m : Int) - ((n : Int) - 2) else 0
def Yqn (a : Int) (l : List YS) (f : YS) : Bool := decide (f.kind = 0) && decide (0 <= Ymq a l.length f.items.length) && (decide (0 <= a) || decide (f.items.length = l.length))
mutual
/-- a match: what is captured -/
def mt (M : YS -> YS -> Bool) (H : YS -> Bool) (A : List YS -> Int) : YS -> YS -> Option (List YC)
 | ⟨k, n, t, s, l⟩, f => if k = 1 then (if Yiv ⟨k, n, t, s, l⟩ = true then some [] else if H ⟨k, n, t, s, l⟩ = true then (if f.kind = 1 /\ M ⟨k, n, t, s, l⟩ f = true then some [] else none) else some [Yqc ⟨k, n, t, s, l⟩ f])
  else if k = 0 then (if Yqn (A l) l f = true then mts M H A l 0 (A l) (Ymq (A l) l.length f.items.length).toNat f.items else none)
  else if f.kind = k /\ f.number = n /\ f.text = t then some [] else none
def mts (M : YS -> YS -> Bool) (H : YS -> Bool) (A : List YS -> Int) : List YS -> Int -> Int -> Nat -> List YS -> Option (List YC)
 | [], _, _, _, _ => some []
 | x :: r, i, a, m, fs => if i = a then mts M H A r (i + 1) a m fs
  else if i + 1 = a then (match mtr (mt M H A x) (fs.take m) with
   | none => none
   | some R => match mts M H A r (i + 1) a m (fs.drop m) with
    | none => none
    | some c => some (rp (nm H A x 1) R ++ c))
  else match mt M H A x (fs.getD 0 default) with
   | none => none
   | some c => match mts M H A r (i + 1) a m (fs.drop 1) with
    | none => none
    | some d => some (c ++ d)
end
theorem Yl8 (M : YS -> YS -> Bool) (H : YS -> Bool) (A : List YS -> Int) (p f : YS) : mt M H A p f = if p.kind = 1 then (if Yiv p = true then some [] else if H p = true then (if f.kind = 1 /\ M p f = true then some [] else none) else some [Yqc p f])
  else if p.kind = 0 then (if Yqn (A p.items) p.items f = true then mts M H A p.items 0 (A p.items) (Ymq (A p.items) p.items.length f.items.length).toNat f.items else none)
  else if f.kind = p.kind /\ f.number = p.number /\ f.text = p.text then some [] else none := by cases p; simp only [mt]
theorem Y18t (H : YS -> Bool) (A : List YS -> Int) : ∀ (l : List YS), (∀ x ∈ l, ∀ d, nm H A x (d + 1) = (nm H A x d).map upC) -> ∀ i a d, nms H A l i a (d + 1) = (nms H A l i a d).map upC
 | [], _, i, a, d => by simp [nms]
 | x :: r, h, i, a, d => by
  simp only [nms, List.map_append, Y18t H A r (fun y hy => h y (List.mem_cons_of_mem _ hy))]
  congr 1
  split
  ·rfl
  ·split
   ·exact h x List.mem_cons_self (d + 1)
   ·exact h x List.mem_cons_self d
theorem Y1cd (H : YS -> Bool) (A : List YS -> Int) : ∀ (p : YS) (d : Int), nm H A p (d + 1) = (nm H A p d).map upC := by
 intro p
 refine YS.ind (P := fun p => ∀ d, nm H A p (d + 1) = (nm H A p d).map upC) (fun p ih d => ?_) p
 rw [Ymw, Ymw]
 split
 ·split
  ·rfl
  ·rfl
 ·split
  ·exact Y18t H A p.items ih 0 _ d
  ·rfl
theorem Y18p {M : YS -> YS -> Bool} {H : YS -> Bool} {A : List YS -> Int} : ∀ (l : List YS), (∀ x ∈ l, ∀ f c, mt M H A x f = some c -> c.length = (nm H A x 0).length) -> ∀ i a m fs c, mts M H A l i a m fs = some c -> c.length = (nms H A l i a 0).length
 | [], _, i, a, m, fs, c, e => by simp only [mts, Option.some.injEq] at e; subst e; simp [nms]
 | x :: r, h, i, a, m, fs, c, e => by
  have ih := Y18p r (fun y hy => h y (List.mem_cons_of_mem _ hy)) (i + 1) a m
  simp only [mts] at e
  simp only [nms]
  split at e
  ·rename_i hi; rw [if_pos hi]; simpa using ih _ _ e
  ·rename_i hi
   rw [if_neg hi]
   split at e
   ·rename_i hi2
    rw [if_pos hi2]
    split at e
    ·cases e
    ·split at e
     ·cases e
     ·rename_i c' hc
      simp only [Option.some.injEq] at e; subst e
      rw [List.length_append, List.length_append, Ymg, ih _ _ hc]; rfl
   ·rename_i hi2
    rw [if_neg hi2]
    split at e
    ·cases e
    ·rename_i c1 h1
     split at e
     ·cases e
     ·rename_i c' hc
      simp only [Option.some.injEq] at e; subst e
      rw [List.length_append, List.length_append, h x List.mem_cons_self _ _ h1, ih _ _ hc]
theorem Y13n {M : YS -> YS -> Bool} {H : YS -> Bool} {A : List YS -> Int} : ∀ (p f : YS) (c : List YC), mt M H A p f = some c -> c.length = (nm H A p 0).length := by
 intro p
 refine YS.ind (P := fun p => ∀ f c, mt M H A p f = some c -> c.length = (nm H A p 0).length) (fun p ih f c e => ?_) p
 rw [Yl8] at e
 rw [Ymw]
 split at e
 ·rename_i hk
  rw [if_pos hk]
  split at e
  ·rename_i hu; simp only [Option.some.injEq] at e; subst e; rw [if_pos (.inl hu)]
  ·rename_i hu
   split at e
   ·rename_i hh
    split at e
    ·simp only [Option.some.injEq] at e; subst e; rw [if_pos (.inr hh)]
    ·cases e
   ·rename_i hh
    simp only [Option.some.injEq] at e; subst e
    rw [if_neg (by simp [hu, hh])]; rfl
 ·rename_i hk
  rw [if_neg hk]
  split at e
  ·rename_i h0
   rw [if_pos h0]
   split at e
   ·exact Y18p p.items ih _ _ _ _ _ e
   ·cases e
  ·rename_i h0
   rw [if_neg h0]
   split at e
   ·simp only [Option.some.injEq] at e; subst e; rfl
   ·cases e
theorem Y17y (H : YS -> Bool) (A : List YS -> Int) (p : YS) : (nm H A p 1).length = (nm H A p 0).length := by
 have := Y1cd H A p 0
 rw [show (0 : Int) + 1 = 1 from rfl] at this
 rw [this, List.length_map]
def aS (l : List YS) : Int := if okS l = true then atS l else -1
theorem Y1dn {Ls : List YS} : ∀ (l : List YS), (∀ x ∈ l, ∀ d o r, vrS Ls x d o = some r -> r = o ++ nm (Yii Ls) aS x d) -> ∀ i a d o r, wlk (vrS Ls) l i a d o = some r -> r = o ++ nms (Yii Ls) aS l i a d
 | [], _, i, a, d, o, r, e => by simp only [wlk, Option.some.injEq] at e; subst e; simp [nms]
 | x :: l, h, i, a, d, o, r, e => by
  have ih := Y1dn l fun y hy => h y (List.mem_cons_of_mem _ hy)
  simp only [wlk] at e
  simp only [nms]
  split at e
  ·rename_i hi; rw [if_pos hi, ih _ _ _ _ _ e]; rfl
  ·rename_i hi
   rw [if_neg hi]
   split at e
   ·cases e
   ·rename_i o1 h1
    rw [ih _ _ _ _ _ e, h x List.mem_cons_self _ _ _ h1, List.append_assoc]
theorem Y1dq {Ls : List YS} : ∀ (p : YS), okY p = true -> ∀ d o r, vrS Ls p d o = some r -> r = o ++ nm (Yii Ls) aS p d := by
 refine YS.ind fun p ih h d o r e => ?_
 rw [Ymd] at e
 rw [Ymw]
 split at e
 ·rename_i hk
  rw [if_pos hk]
  split at e
  ·rename_i hu; simp only [Option.some.injEq] at e; subst e; rw [if_pos hu]; simp
  ·rename_i hu
   rw [if_neg hu]
   split at e
   ·cases e
   ·simp only [Option.some.injEq] at e; exact e.symm
 ·rename_i hk
  rw [if_neg hk]
  split at e
  ·rename_i hs
   by_cases h0 : p.kind = 0
   ·rw [if_pos h0]
    have ha : aS p.items = atS p.items := if_pos hs
    rw [ha]
    exact Y1dn p.items (fun x hx => ih x hx (Yl3 h x hx)) _ _ _ _ _ e
   ·rw [if_neg h0]
    rw [Y166 h hk h0] at e
    simp only [wlk, Option.some.injEq] at e; subst e; simp
  ·cases e
theorem Yvp (L : List YC) (q : YS) : 0 <= fnd L q ↔ Yhn q = false /\ L.any (Yl7 q) = true := by
 have h1 : Ym4 L q < L.length ↔ L.any (Yl7 q) = true := by
  unfold Ym4
  rw [List.findIdx_lt_length, List.any_eq_true]
 unfold fnd
 constructor
 ·intro h
  split at h
  ·rename_i hc; exact ⟨hc.1, h1.1 hc.2⟩
  ·omega
 ·rintro ⟨h2, h3⟩
  rw [if_pos ⟨h2, h1.2 h3⟩]; omega
theorem Y15f {Ls : List YS} : ∀ (l : List YS), (∀ x ∈ l, ∀ d o r, vrS Ls x d o = some r -> ∀ d' o', d' <= d -> (∀ q, 0 <= fnd o' q -> 0 <= fnd o q) -> ∃ r', vrS Ls x d' o' = some r' /\ ∀ q, 0 <= fnd r' q -> 0 <= fnd r q) ->
  ∀ i a d o r, wlk (vrS Ls) l i a d o = some r -> ∀ d' o', d' <= d -> (∀ q, 0 <= fnd o' q -> 0 <= fnd o q) -> ∃ r', wlk (vrS Ls) l i a d' o' = some r' /\ ∀ q, 0 <= fnd r' q -> 0 <= fnd r q
 | [], _, i, a, d, o, r, e, d', o', hd, ho => by simp only [wlk, Option.some.injEq] at e ⊢; subst e; exact ⟨o', rfl, ho⟩
 | x :: l, h, i, a, d, o, r, e, d', o', hd, ho => by
  have ih := Y15f l fun y hy => h y (List.mem_cons_of_mem _ hy)
  simp only [wlk] at e ⊢
  split at e
  ·rename_i hi; rw [if_pos hi]; exact ih _ _ _ _ _ e _ _ hd ho
  ·rename_i hi
   rw [if_neg hi]
   split at e
   ·cases e
   ·rename_i o1 h1
    obtain ⟨r1, e1, e2⟩ := h x List.mem_cons_self _ _ _ h1 (if i + 1 = a then d' + 1 else d') o' (by split <;> omega) ho
    rw [e1]
    exact ih _ _ _ _ _ e _ _ hd e2
theorem Y148 {Ls : List YS} : ∀ (p : YS) (d : Int) (o r : List YC), vrS Ls p d o = some r -> ∀ d' o', d' <= d -> (∀ q, 0 <= fnd o' q -> 0 <= fnd o q) -> ∃ r', vrS Ls p d' o' = some r' /\ ∀ q, 0 <= fnd r' q -> 0 <= fnd r q := by
 refine YS.ind fun p ih d o r e d' o' hd ho => ?_
 rw [Ymd] at e ⊢
 split at e
 ·rename_i hk
  rw [if_pos hk]
  split at e
  ·rename_i hu; simp only [Option.some.injEq] at e; subst e; rw [if_pos hu]; exact ⟨o', rfl, ho⟩
  ·rename_i hu
   rw [if_neg hu]
   split at e
   ·cases e
   ·rename_i hb
    simp only [Option.some.injEq] at e; subst e
    rw [if_neg (fun hc => hb (hc.imp id (Or.imp (ho p) (fun h => by omega))))]
    refine ⟨_, rfl, fun q hq => ?_⟩
    rw [Yvp] at hq ⊢
    refine ⟨hq.1, ?_⟩
    rw [List.any_append, Bool.or_eq_true] at hq ⊢
    rcases hq.2 with h1 | h1
    ·exact .inl ((Yvp o q).1 (ho q ((Yvp o' q).2 ⟨hq.1, h1⟩))).2
    ·exact .inr h1
 ·rename_i hk
  rw [if_neg hk]
  split at e
  ·rename_i hs
   rw [if_pos hs]
   exact Y15f p.items ih _ _ _ _ _ e _ _ hd ho
  ·cases e
theorem Yxd {f : YS -> Int -> List YC -> Option (List YC)} : ∀ (l : List YS) (i a d : Int) (o r : List YC), wlk f l i a d o = some r -> ∀ k : Nat, k < l.length -> i + k ≠ a ->
  ∃ o' r', f (l.getD k default) (if i + k + 1 = a then d + 1 else d) o' = some r'
 | [], i, a, d, o, r, e, k, hk, _ => by simp at hk
 | x :: l, i, a, d, o, r, e, k, hk, hne => by
  simp only [wlk] at e
  cases k with
  | zero =>
   split at e
   ·rename_i hi; exact absurd hi (by simpa using hne)
   ·split at e
    ·cases e
    ·rename_i o1 h1
     exact ⟨o, o1, by simpa using h1⟩
  | succ k =>
   have hk' : k < l.length := by simpa using hk
   have e1 : i + ((k + 1 : Nat) : Int) = i + 1 + (k : Int) := by omega
   have : ∃ o2 r2, wlk f l (i + 1) a d o2 = some r2 := by
    split at e
    ·exact ⟨_, _, e⟩
    ·split at e
     ·cases e
     ·exact ⟨_, _, e⟩
   obtain ⟨o2, r2, e2⟩ := this
   rw [e1] at hne ⊢
   simpa using Yxd l (i + 1) a d o2 r2 e2 k hk' hne
def good (Ls : List YS) (p : YS) : Prop := okY p = true /\ ∃ d o r, 0 <= d /\ vrS Ls p d o = some r
theorem Ysv {Ls : List YS} {p : YS} (h : good Ls p) (h0 : p.kind = 0) : okS p.items = true := by
 obtain ⟨_, d, o, r, _, e⟩ := h
 rw [Ymd, if_neg (by omega)] at e
 cases hs : okS p.items with
 | true => rfl
 | false => rw [hs, if_neg (by simp)] at e; cases e
theorem Yo3 {Ls : List YS} {p : YS} (h : good Ls p) (h0 : p.kind = 0) {k : Nat} (hk : k < p.items.length) (hne : (k : Int) ≠ aS p.items) : good Ls (p.items.getD k default) := by
 have hs := Ysv h h0
 obtain ⟨hy, d, o, r, hd, e⟩ := h
 refine ⟨Yl3 hy _ (Yhj hk), ?_⟩
 rw [Ymd, if_neg (by omega), if_pos hs] at e
 have ha : aS p.items = atS p.items := if_pos hs
 rw [ha] at hne
 obtain ⟨o', r', e'⟩ := Yxd p.items 0 _ d o r e k hk (by omega)
 exact ⟨_, o', r', by split <;> omega, e'⟩
theorem Ysp {Ls : List YS} {p : YS} (h : good Ls p) (h0 : p.kind = 0) {k : Nat} (hk : k < p.items.length) (ha : (k : Int) + 1 = aS p.items) :
  vrS Ls (p.items.getD k default) 0 [] = some (nm (Yii Ls) aS (p.items.getD k default) 0) /\ vrS Ls (p.items.getD k default) 1 [] = some (nm (Yii Ls) aS (p.items.getD k default) 1) := by
 have hs := Ysv h h0
 obtain ⟨hy, d, o, r, hd, e⟩ := h
 have hy' := Yl3 hy _ (Yhj hk)
 rw [Ymd, if_neg (by omega), if_pos hs] at e
 have ha' : aS p.items = atS p.items := if_pos hs
 rw [ha'] at ha
 obtain ⟨o', r', e'⟩ := Yxd p.items 0 _ d o r e k hk (by omega)
 rw [if_pos (by omega)] at e'
 have hn : ∀ q, 0 <= fnd [] q -> 0 <= fnd o' q := fun q hq => by rw [Yvp] at hq; simp at hq
 obtain ⟨r0, e0, _⟩ := Y148 _ _ _ _ e' 0 [] (by omega) hn
 obtain ⟨r1, e1, _⟩ := Y148 _ _ _ _ e' 1 [] (by omega) hn
 refine ⟨?_, ?_⟩
 ·rw [e0]; exact congrArg some (by simpa using Y1dq _ hy' _ _ _ e0)
 ·rw [e1]; exact congrArg some (by simpa using Y1dq _ hy' _ _ _ e1)
theorem Y1du {g g' : YS -> Option (List YC)} (h : ∀ f, g f = g' f) (L : List YS) : mtr g L = mtr g' L := by rw [funext h]
theorem Y15j {M : YS -> YS -> Bool} {H H' : YS -> Bool} {A A' : List YS -> Int} {a : Int} : ∀ (l : List YS) (i : Int), (∀ k : Nat, k < l.length -> i + k ≠ a -> (∀ f, mt M H A (l.getD k default) f = mt M H' A' (l.getD k default) f) /\
      nm H A (l.getD k default) 1 = nm H' A' (l.getD k default) 1) -> ∀ m fs, mts M H A l i a m fs = mts M H' A' l i a m fs
  | [], i, _, m, fs => by simp only [mts]
  | x :: r, i, h, m, fs => by
    have ih := Y15j (a := a) r (i + 1) (fun k hk hne => by
      have := h (k + 1) (by simpa using hk) (by omega)
      simpa using this)
    simp only [mts, ih]
    by_cases hi : i = a
    · rw [if_pos hi, if_pos hi]
    · obtain ⟨h1, h2⟩ := h 0 (by simp) (by simpa using hi)
      simp only [List.getD_cons_zero] at h1 h2
      rw [if_neg hi, if_neg hi, Y1du h1, h2, h1]
theorem Y12g {H H' : YS -> Bool} {A A' : List YS -> Int} {a : Int} : ∀ (l : List YS) (i : Int), (∀ k : Nat, k < l.length -> i + k ≠ a -> ∀ d, nm H A (l.getD k default) d = nm H' A' (l.getD k default) d) -> ∀ d, nms H A l i a d = nms H' A' l i a d
 | [], i, _, d => by simp only [nms]
 | x :: r, i, h, d => by
  have ih := Y12g (a := a) r (i + 1) (fun k hk hne => by
   have := h (k + 1) (by simpa using hk) (by omega)
   simpa using this)
  simp only [nms, ih]
  by_cases hi : i = a
  ·rw [if_pos hi, if_pos hi]
  ·have h1 := h 0 (by simp) (by simpa using hi)
   simp only [List.getD_cons_zero] at h1
   rw [if_neg hi, if_neg hi, h1]
theorem Y177 {M : YS -> YS -> Bool} {Ls : List YS} (hL : ∀ x ∈ Ls, Yk9 x = true) : ∀ p : YS, good Ls p -> (∀ f, mt M (Yii Ls) aS p f = mt M (Ykd Ls) atI p f) /\ ∀ d, nm (Yii Ls) aS p d = nm (Ykd Ls) atI p d := by
 refine YS.ind fun p ih hg => ?_
 by_cases hk : p.kind = 1
 ·have hh := Y111 hL hk
  refine ⟨fun f => ?_, fun d => ?_⟩
  ·rw [Yl8, Yl8, if_pos hk, if_pos hk, hh]
  ·rw [Ymw, Ymw, if_pos hk, if_pos hk, hh]
 ·by_cases h0 : p.kind = 0
  ·have hs := Ysv hg h0
   have e1 : aS p.items = atI p.items := by rw [(Y143 hs).1]; exact if_pos hs
   have hit : ∀ k : Nat, k < p.items.length -> (0 : Int) + k ≠ atI p.items -> (∀ f, mt M (Yii Ls) aS (p.items.getD k default) f = mt M (Ykd Ls) atI (p.items.getD k default) f) /\ ∀ d, nm (Yii Ls) aS (p.items.getD k default) d = nm (Ykd Ls) atI (p.items.getD k default) d :=
    fun k hk' hne => ih _ (Yhj hk') (Yo3 hg h0 hk' (by rw [e1]; omega))
   refine ⟨fun f => ?_, fun d => ?_⟩
   ·rw [Yl8, Yl8, if_neg hk, if_neg hk, if_pos h0, if_pos h0, e1, Y15j p.items 0 fun k hk' hne => ⟨(hit k hk' hne).1, (hit k hk' hne).2 1⟩]
   ·rw [Ymw, Ymw, if_neg hk, if_neg hk, if_pos h0, if_pos h0, e1, Y12g p.items 0 fun k hk' hne => (hit k hk' hne).2]
  ·refine ⟨fun f => ?_, fun d => ?_⟩
   ·rw [Yl8, Yl8, if_neg hk, if_neg hk, if_neg h0, if_neg h0]
   ·rw [Ymw, Ymw, if_neg hk, if_neg hk, if_neg h0, if_neg h0]
theorem Y12z {H : YS -> Bool} {A : List YS -> Int} : ∀ (l : List YS), (∀ x ∈ l, ∀ d, (nm H A x d).length <= Yhk x) -> ∀ i a d, (nms H A l i a d).length <= Yhb Yhk l
 | [], _, i, a, d => by simp [nms]
 | x :: r, h, i, a, d => by
  have ih := Y12z r (fun y hy => h y (List.mem_cons_of_mem _ hy)) (i + 1) a d
  simp only [nms, List.length_append, Yhb]
  split
  ·simp only [List.length_nil]; omega
  ·have := h x List.mem_cons_self (if i + 1 = a then d + 1 else d); omega
theorem Ys4 (H : YS -> Bool) (A : List YS -> Int) : ∀ (p : YS) (d : Int), (nm H A p d).length <= Yhk p := by
 intro p
 refine YS.ind (P := fun p => ∀ d, (nm H A p d).length <= Yhk p) (fun p ih d => ?_) p
 have hz := Yi9 p
 rw [Ymw]
 split
 ·split
  ·simp
  ·simp only [List.length_singleton]; omega
 ·split
  ·have := Y12z p.items ih 0 (A p.items) d; omega
  ·simp
def rws (g : YS -> Option (List YC)) (fs : List YS) (k : Nat) : Nat -> List (List YC) × Bool
 | 0 => ([], true)
 | j + 1 => if (rws g fs k j).2 = true then (match g (fs.getD (k + j) default) with | some c => ((rws g fs k j).1 ++ [c], true) | none => ((rws g fs k j).1, false)) else rws g fs k j
theorem Yzx {g : YS -> Option (List YC)} {fs : List YS} {k : Nat} : ∀ j, (rws g fs k j).2 = true -> (rws g fs k j).1.length = j
 | 0, _ => rfl
 | j + 1, h => by
  simp only [rws] at h ⊢
  split at h
  ·rename_i hj
   rw [if_pos hj]
   split at h
   ·rename_i c hc; rw [List.length_append, Yzx j hj, List.length_singleton]
   ·cases h
  ·rename_i hj; exact absurd h hj
theorem Ysw {g : YS -> Option (List YC)} {fs : List YS} {k j : Nat} (h : (rws g fs k j).2 = false) : ∀ n, rws g fs k (j + n) = rws g fs k j
 | 0 => rfl
 | n + 1 => by
  have ih := Ysw h n
  rw [<- Nat.add_assoc]
  simp only [rws, ih, h]
  simp
theorem Ywo {g : YS -> Option (List YC)} {fs : List YS} {k j : Nat} {c : List YC} (h : (rws g fs k j).2 = true) (hc : g (fs.getD (k + j) default) = some c) : rws g fs k (j + 1) = ((rws g fs k j).1 ++ [c], true) := by
 simp only [rws]; rw [if_pos h, hc]
theorem Yws {g : YS -> Option (List YC)} {fs : List YS} {k j : Nat} (h : (rws g fs k j).2 = true) (hc : g (fs.getD (k + j) default) = none) : rws g fs k (j + 1) = ((rws g fs k j).1, false) := by
 simp only [rws]; rw [if_pos h, hc]
theorem Y139 (g : YS -> Option (List YC)) : ∀ (L : List YS) (x : YS), mtr g (L ++ [x]) = match mtr g L with | none => none | some R => match g x with | none => none | some c => some (R ++ [c])
 | [], x => by cases h : g x <;> simp [mtr, h]
 | y :: L, x => by
  simp only [List.cons_append, mtr, Y139 g L x]
  cases g y with
  | none => rfl
  | some c =>
   cases mtr g L with
   | none => rfl
   | some R => cases g x <;> rfl
theorem Yza {g : YS -> Option (List YC)} {fs : List YS} {k : Nat} : ∀ j, k + j <= fs.length -> mtr g ((fs.drop k).take j) = if (rws g fs k j).2 = true then some (rws g fs k j).1 else none
 | 0, _ => by simp [mtr, rws]
 | j + 1, h => by
  have hj : j < (fs.drop k).length := by rw [List.length_drop]; omega
  have e : (fs.drop k).getD j default = fs.getD (k + j) default := by simp [List.getD_eq_getElem?_getD, List.getElem?_drop]
  rw [Yhy hj, Y139, Yza j (by omega), e]
  by_cases hr : (rws g fs k j).2 = true
  ·rw [if_pos hr]
   cases hg : g (fs.getD (k + j) default) with
   | none => rw [Yws hr hg]; rfl
   | some c => rw [Ywo hr hg]; rfl
  ·have hr' : (rws g fs k j).2 = false := by simpa using hr
   rw [if_neg hr, Ysw hr' 1, if_neg hr]
def flM (x : YS) (L : List YC) : List YC := if x.kind = 0 then [] else L
def sA (g : YS -> YS -> Option (List YC)) (N : YS -> List YC) (l fs : List YS) (a : Int) (m : Nat) (o : List YC) : Nat -> List YC × Nat × Bool
 | 0 => (o, 0, true)
 | i + 1 => if (sA g N l fs a m o i).2.2 = true then (if (i : Int) = a then sA g N l fs a m o i
   else if (i : Int) + 1 = a then ((sA g N l fs a m o i).1 ++ rp (N (l.getD i default)) (rws (g (l.getD i default)) fs (sA g N l fs a m o i).2.1 m).1,
    (sA g N l fs a m o i).2.1 + (if (rws (g (l.getD i default)) fs (sA g N l fs a m o i).2.1 m).2 = true then m else (rws (g (l.getD i default)) fs (sA g N l fs a m o i).2.1 m).1.length + 1),
    (rws (g (l.getD i default)) fs (sA g N l fs a m o i).2.1 m).2)
   else match g (l.getD i default) (fs.getD (sA g N l fs a m o i).2.1 default) with
    | some c => ((sA g N l fs a m o i).1 ++ c, (sA g N l fs a m o i).2.1 + 1, true)
    | none => (flM (l.getD i default) (sA g N l fs a m o i).1, (sA g N l fs a m o i).2.1 + 1, false))
  else sA g N l fs a m o i
section
variable {g : YS -> YS -> Option (List YC)} {N : YS -> List YC} {l fs : List YS} {a : Int} {m : Nat} {o : List YC}
def oA (g : YS -> YS -> Option (List YC)) (N : YS -> List YC) (l fs : List YS) (a : Int) (m : Nat) (o : List YC) (i : Nat) : List YC := (sA g N l fs a m o i).1
def kA (g : YS -> YS -> Option (List YC)) (N : YS -> List YC) (l fs : List YS) (a : Int) (m : Nat) (o : List YC) (i : Nat) : Nat := (sA g N l fs a m o i).2.1
def bA (g : YS -> YS -> Option (List YC)) (N : YS -> List YC) (l fs : List YS) (a : Int) (m : Nat) (o : List YC) (i : Nat) : Bool := (sA g N l fs a m o i).2.2
theorem Y1ij : oA g N l fs a m o 0 = o /\ kA g N l fs a m o 0 = 0 /\ bA g N l fs a m o 0 = true := ⟨rfl, rfl, rfl⟩
theorem Y16w {i : Nat} (h : bA g N l fs a m o i = true) (e : (i : Int) = a) : oA g N l fs a m o (i + 1) = oA g N l fs a m o i /\ kA g N l fs a m o (i + 1) = kA g N l fs a m o i /\ bA g N l fs a m o (i + 1) = true := by
 have e1 : sA g N l fs a m o (i + 1) = sA g N l fs a m o i := by
  have h' : (sA g N l fs a m o i).2.2 = true := h
  simp only [sA]; rw [if_pos h', if_pos e]
 unfold oA kA bA at *; rw [e1]; exact ⟨rfl, rfl, h⟩
theorem Y12k {i : Nat} (h : bA g N l fs a m o i = true) (e : ¬ (i : Int) = a) (e2 : ¬ (i : Int) + 1 = a) {c : Option (List YC)} (hc : g (l.getD i default) (fs.getD (kA g N l fs a m o i) default) = c) :
  oA g N l fs a m o (i + 1) = c.elim (flM (l.getD i default) (oA g N l fs a m o i)) (fun c => oA g N l fs a m o i ++ c) /\ kA g N l fs a m o (i + 1) = kA g N l fs a m o i + 1 /\ bA g N l fs a m o (i + 1) = c.isSome := by
 have h' : (sA g N l fs a m o i).2.2 = true := h
 have hc' : g (l.getD i default) (fs.getD (sA g N l fs a m o i).2.1 default) = c := hc
 cases c with
 | some c =>
  have e1 : sA g N l fs a m o (i + 1) = ((sA g N l fs a m o i).1 ++ c, (sA g N l fs a m o i).2.1 + 1, true) := by
   simp only [sA]; rw [if_pos h', if_neg e, if_neg e2, hc']
  unfold oA kA bA; rw [e1]; exact ⟨rfl, rfl, rfl⟩
 | none =>
  have e1 : sA g N l fs a m o (i + 1) = (flM (l.getD i default) (sA g N l fs a m o i).1, (sA g N l fs a m o i).2.1 + 1, false) := by
   simp only [sA]; rw [if_pos h', if_neg e, if_neg e2, hc']
  unfold oA kA bA; rw [e1]; exact ⟨rfl, rfl, rfl⟩
theorem Y1ca {i : Nat} (h : bA g N l fs a m o i = true) (e2 : (i : Int) + 1 = a) {k : Nat} (hk : kA g N l fs a m o i = k) {R : List (List YC) × Bool} (hR : rws (g (l.getD i default)) fs k m = R) :
    oA g N l fs a m o (i + 1) = oA g N l fs a m o i ++ rp (N (l.getD i default)) R.1 /\ kA g N l fs a m o (i + 1) = k + (if R.2 = true then m else R.1.length + 1) /\ bA g N l fs a m o (i + 1) = R.2 := by
  subst hk; subst hR
  have e1 : sA g N l fs a m o (i + 1) = ((sA g N l fs a m o i).1 ++ rp (N (l.getD i default)) (rws (g (l.getD i default)) fs (sA g N l fs a m o i).2.1 m).1,
        (sA g N l fs a m o i).2.1 + (if (rws (g (l.getD i default)) fs (sA g N l fs a m o i).2.1 m).2 = true then m else (rws (g (l.getD i default)) fs (sA g N l fs a m o i).2.1 m).1.length + 1),
        (rws (g (l.getD i default)) fs (sA g N l fs a m o i).2.1 m).2) := by
    have h' : (sA g N l fs a m o i).2.2 = true := h
    simp only [sA]; rw [if_pos h', if_neg (by omega), if_pos e2]
  unfold oA kA bA; rw [e1]; exact ⟨rfl, rfl, rfl⟩
theorem Y180 {i : Nat} (h : bA g N l fs a m o i = false) : ∀ n, sA g N l fs a m o (i + n) = sA g N l fs a m o i
 | 0 => rfl
 | n + 1 => by
  have ih := Y180 h n
  rw [<- Nat.add_assoc]
  have h' : (sA g N l fs a m o i).2.2 = false := h
  simp only [sA, ih, h']
  simp
theorem Y1ch {i n : Nat} (h : bA g N l fs a m o i = false) (hn : i <= n) : oA g N l fs a m o n = oA g N l fs a m o i /\ kA g N l fs a m o n = kA g N l fs a m o i /\ bA g N l fs a m o n = false := by
 have := Y180 h (n - i)
 rw [show i + (n - i) = n by omega] at this
 unfold oA kA bA at *; rw [this]; exact ⟨rfl, rfl, h⟩
end
def kF (a : Int) (m i : Nat) : Int := if a < 0 ∨ (i : Int) < a then i else if (i : Int) = a then a - 1 + m else (i : Int) - 2 + m
section
variable {M : YS -> YS -> Bool} {H : YS -> Bool} {A : List YS -> Int} {l fs : List YS} {a : Int} {m : Nat} {o : List YC}
theorem Y17o (ha : 0 <= a -> 1 <= a /\ a < l.length /\ (fs.length : Int) = l.length - 2 + m) (hb : a < 0 -> fs.length = l.length) : ∀ i, i <= l.length -> (bA (mt M H A) (fun x => nm H A x 1) l fs a m o i = true ->
      (kA (mt M H A) (fun x => nm H A x 1) l fs a m o i : Int) = kF a m i /\ ∃ c, oA (mt M H A) (fun x => nm H A x 1) l fs a m o i = o ++ c /\ c.length <= Yhb Yhk (l.take i) /\
        mts M H A l 0 a m fs = (mts M H A (l.drop i) i a m (fs.drop (kA (mt M H A) (fun x => nm H A x 1) l fs a m o i))).map (c ++ ·)) /\
    (bA (mt M H A) (fun x => nm H A x 1) l fs a m o i = false -> mts M H A l 0 a m fs = none)
  | 0, _ => ⟨fun _ => ⟨by simp [kF, kA, sA]; omega, [], by simp [oA, sA], by simp, by simp [kA, sA]⟩, fun h => by cases h⟩
  | i + 1, hi => by
    obtain ⟨ih1, ih2⟩ := Y17o ha hb i (by omega)
    have hil : i < l.length := by omega
    have hdrop := Yiu hil
    have hsum : Yhb Yhk (l.take (i + 1)) = Yhb Yhk (l.take i) + Yhk (l.getD i default) := by rw [Yhy hil, Ykq]; rfl
    cases hbi : bA (mt M H A) (fun x => nm H A x 1) l fs a m o i with
    | false =>
      have e := Y1ch hbi (Nat.le_succ i)
      refine ⟨fun h => ?_, fun _ => ih2 hbi⟩
      rw [e.2.2] at h; cases h
    | true =>
      obtain ⟨hk, c, hc1, hc2, hc3⟩ := ih1 hbi
      by_cases e : (i : Int) = a
      · obtain ⟨s1, s2, s3⟩ := Y16w hbi e
        refine ⟨fun _ => ⟨?_, c, ?_, ?_, ?_⟩, fun h => by rw [s3] at h; cases h⟩
        · rw [s2, hk]; unfold kF; rw [if_neg (by omega), if_pos e, if_neg (by omega), if_neg (by omega)]; omega
        · rw [s1, hc1]
        · omega
        · rw [hc3, s2, hdrop]
          simp only [mts, if_pos e]
          congr 1
      · by_cases e2 : (i : Int) + 1 = a
        · obtain ⟨s1, s2, s3⟩ := Y1ca hbi e2 rfl rfl
          have hkl : kA (mt M H A) (fun x => nm H A x 1) l fs a m o i + m <= fs.length := by
            have := ha (by omega)
            unfold kF at hk; rw [if_pos (by omega)] at hk; omega
          have hr := Yza (g := mt M H A (l.getD i default)) m hkl
          have hstep : mts M H A (l.drop i) i a m (fs.drop (kA (mt M H A) (fun x => nm H A x 1) l fs a m o i)) = match mtr (mt M H A (l.getD i default)) ((fs.drop (kA (mt M H A) (fun x => nm H A x 1) l fs a m o i)).take m) with
              | none => none
              | some R => match mts M H A (l.drop (i + 1)) (i + 1) a m (fs.drop (kA (mt M H A) (fun x => nm H A x 1) l fs a m o i + m)) with
                | none => none
                | some c => some (rp (nm H A (l.getD i default) 1) R ++ c) := by
            rw [hdrop]
            simp only [mts, if_neg e, if_pos e2, List.drop_drop]
          refine ⟨fun h => ?_, fun h => ?_⟩
          · rw [s3] at h
            rw [if_pos h] at hr s2
            refine ⟨?_, c ++ rp (nm H A (l.getD i default) 1) _, by rw [s1, hc1, List.append_assoc], ?_, ?_⟩
            · rw [s2]; unfold kF at hk ⊢; rw [if_pos (by omega)] at hk; rw [if_neg (by omega), if_pos (by omega)]; omega
            · rw [List.length_append, Ymg, hsum]
              have := Ys4 H A (l.getD i default) 1
              omega
            · rw [hc3, hstep, hr, s2]
              simp only [Int.natCast_add, Int.natCast_one]
              cases mts M H A (l.drop (i + 1)) ((i : Int) + 1) a m (fs.drop (kA (mt M H A) (fun x => nm H A x 1) l fs a m o i + m)) <;> simp
          · rw [s3] at h
            rw [if_neg (by rw [h]; simp)] at hr
            rw [hc3, hstep, hr]; rfl
        · have hstep : mts M H A (l.drop i) i a m (fs.drop (kA (mt M H A) (fun x => nm H A x 1) l fs a m o i)) = match mt M H A (l.getD i default) (fs.getD (kA (mt M H A) (fun x => nm H A x 1) l fs a m o i) default) with
              | none => none
              | some c => match mts M H A (l.drop (i + 1)) (i + 1) a m (fs.drop (kA (mt M H A) (fun x => nm H A x 1) l fs a m o i + 1)) with
                | none => none
                | some d => some (c ++ d) := by
            rw [hdrop]
            have eg : (fs.drop (kA (mt M H A) (fun x => nm H A x 1) l fs a m o i)).getD 0 default = fs.getD (kA (mt M H A) (fun x => nm H A x 1) l fs a m o i) default := by simp [List.getD_eq_getElem?_getD, List.getElem?_drop]
            simp only [mts, if_neg e, if_neg e2, List.drop_drop, eg]
          cases hg : mt M H A (l.getD i default) (fs.getD (kA (mt M H A) (fun x => nm H A x 1) l fs a m o i) default) with
          | none =>
            obtain ⟨s1, s2, s3⟩ := Y12k hbi e e2 hg
            refine ⟨fun h => ?_, fun h => ?_⟩
            · rw [s3] at h; cases h
            · rw [hc3, hstep, hg]; rfl
          | some c' =>
            obtain ⟨s1, s2, s3⟩ := Y12k hbi e e2 hg
            refine ⟨fun _ => ⟨?_, c ++ c', by rw [s1]; simp only [Option.elim]; rw [hc1, List.append_assoc], ?_, ?_⟩, fun h => by rw [s3] at h; cases h⟩
            · rw [s2]; unfold kF at hk ⊢
              by_cases ea : a < 0 ∨ (i : Int) < a
              · rw [if_pos ea] at hk; rw [if_pos (by omega)]; omega
              · rw [if_neg ea, if_neg e] at hk; rw [if_neg (by omega), if_neg (by omega)]; omega
            · rw [List.length_append, hsum, Y13n _ _ _ hg]
              have := Ys4 H A (l.getD i default) 0
              omega
            · rw [hc3, hstep, hg, s2]
              simp only [Int.natCast_add, Int.natCast_one]
              cases mts M H A (l.drop (i + 1)) ((i : Int) + 1) a m (fs.drop (kA (mt M H A) (fun x => nm H A x 1) l fs a m o i + 1)) <;> simp
end
end Go.Proofs.YtpnaoendfpaodaaGreat
end
section
namespace Go.Proofs.YtpnaoendfpaodaaGreat
open Go Ab
abbrev gS (B : List YB) (Ls : List YS) : YS -> YS -> Option (List YC) := mt (mng B) (Yii Ls) aS
def nS (Ls : List YS) (x : YS) : List YC := nm (Yii Ls) aS x 1
def eV (Ls : List YS) (x : YS) : List YC := (vrS Ls x 0 []).getD []
def smO (p : YS) (o : List YC) (r : Option (List YC)) : List YC := match r with | some c => o ++ c | none => flM p o
def mS (p f : YS) : Nat := (Ymq (aS p.items) p.items.length f.items.length).toNat
def oS (B : List YB) (Ls : List YS) (p f : YS) (o : List YC) (i : Nat) : List YC := oA (gS B Ls) (fun x => nm (Yii Ls) aS x 1) p.items f.items (aS p.items) (mS p f) o i
def kS (B : List YB) (Ls : List YS) (p f : YS) (o : List YC) (i : Nat) : Nat := kA (gS B Ls) (fun x => nm (Yii Ls) aS x 1) p.items f.items (aS p.items) (mS p f) o i
def bS (B : List YB) (Ls : List YS) (p f : YS) (o : List YC) (i : Nat) : Bool := bA (gS B Ls) (fun x => nm (Yii Ls) aS x 1) p.items f.items (aS p.items) (mS p f) o i
def rS (B : List YB) (Ls : List YS) (p f : YS) (o : List YC) (i t : Nat) : List (List YC) := (rws (gS B Ls (p.items.getD i default)) f.items (kS B Ls p f o i) t).1
def qS (B : List YB) (Ls : List YS) (p f : YS) (o : List YC) (i t : Nat) : Bool := (rws (gS B Ls (p.items.getD i default)) f.items (kS B Ls p f o i) t).2
def fS (p f : YS) : Bool := Yqn (aS p.items) p.items f
def Yin (V : List YC) (i : Nat) : List YC := (V.take i).map upC ++ V.drop i
abbrev Ypu (x : YC) : List Cell := [cI x.name.kind, cI x.name.number, cS x.name.text, .any, .any, cI x.depth, cI x.form.kind, cI x.form.number, cS x.form.text, .any, .any, .any]
def Yjb (V : List YC) (R : List (List YC)) (c : List YC) (u : Nat) : List YC := (rp V (R ++ [c])).take u ++ (rp V R).drop u
theorem Y1g8 (l : List YS) : aS l = -1 ∨ ∃ a : Nat, aS l = a /\ 1 <= a /\ a < l.length := by
 unfold aS
 split
 ·rename_i h
  rcases Yyp l l.length (Nat.le_refl _) h with h1 | ⟨m, h1, h2, h3, _⟩
  ·exact .inl h1.1
  ·exact .inr ⟨m, h3, h1, h2⟩
 ·exact .inl rfl
theorem Yvm (p f : YS) : fS p f = (decide (f.kind = 0) && decide (0 <= Ymq (aS p.items) p.items.length f.items.length) && (decide (0 <= aS p.items) || decide (f.items.length = p.items.length))) := rfl
theorem Y1g4 {p f : YS} (h : fS p f = true) : f.kind = 0 /\ (aS p.items = -1 /\ f.items.length = p.items.length /\ mS p f = 0 ∨ ∃ a : Nat, aS p.items = a /\ 1 <= a /\ a < p.items.length /\ (f.items.length : Int) = p.items.length - 2 + mS p f) := by
 rw [Yvm] at h
 simp only [Bool.and_eq_true, Bool.or_eq_true, decide_eq_true_eq] at h
 obtain ⟨⟨h1, h2⟩, h3⟩ := h
 refine ⟨h1, ?_⟩
 rcases Y1g8 p.items with ha | ⟨a, ha, ha1, ha2⟩
 ·refine .inl ⟨ha, by rcases h3 with h3 | h3 <;> omega, ?_⟩
  unfold mS Ymq; rw [ha, if_neg (by omega)]; rfl
 ·refine .inr ⟨a, ha, ha1, ha2, ?_⟩
  have e : Ymq (aS p.items) p.items.length f.items.length = (f.items.length : Int) - ((p.items.length : Int) - 2) := if_pos (by omega)
  rw [e] at h2
  unfold mS; rw [e]; omega
section
variable {B : List YB} {Ls : List YS} {p f : YS} {o : List YC}
theorem Y1gu : oS B Ls p f o 0 = o /\ kS B Ls p f o 0 = 0 /\ bS B Ls p f o 0 = true := Y1ij
theorem Y1hj {i : Nat} (h : bS B Ls p f o i = true) (e : (i : Int) = aS p.items) : oS B Ls p f o (i + 1) = oS B Ls p f o i /\ kS B Ls p f o (i + 1) = kS B Ls p f o i /\ bS B Ls p f o (i + 1) = true := Y16w h e
theorem Y1io {i : Nat} (h : bS B Ls p f o i = true) (e : ¬ (i : Int) = aS p.items) (e2 : ¬ (i : Int) + 1 = aS p.items) :
    oS B Ls p f o (i + 1) = smO (p.items.getD i default) (oS B Ls p f o i) (gS B Ls (p.items.getD i default) (f.items.getD (kS B Ls p f o i) default)) /\ kS B Ls p f o (i + 1) = kS B Ls p f o i + 1 /\ bS B Ls p f o (i + 1) = (gS B Ls (p.items.getD i default) (f.items.getD (kS B Ls p f o i) default)).isSome := by
  obtain ⟨h1, h2, h3⟩ := Y12k (N := fun x => nm (Yii Ls) aS x 1) h e e2 rfl
  refine ⟨?_, h2, h3⟩
  have e3 : oS B Ls p f o (i + 1) = _ := h1
  rw [e3]
  unfold smO
  cases hg : gS B Ls (p.items.getD i default) (f.items.getD (kS B Ls p f o i) default) with
  | none => have hg' : gS B Ls (p.items.getD i default) (f.items.getD (kA (gS B Ls) (fun x => nm (Yii Ls) aS x 1) p.items f.items (aS p.items) (mS p f) o i) default) = none := hg
            rw [hg']; rfl
  | some c => have hg' : gS B Ls (p.items.getD i default) (f.items.getD (kA (gS B Ls) (fun x => nm (Yii Ls) aS x 1) p.items f.items (aS p.items) (mS p f) o i) default) = some c := hg
              rw [hg']; rfl
theorem Y1jd {i : Nat} (h : bS B Ls p f o i = true) (e2 : (i : Int) + 1 = aS p.items) :
  oS B Ls p f o (i + 1) = oS B Ls p f o i ++ rp (nS Ls (p.items.getD i default)) (rS B Ls p f o i (mS p f)) /\ kS B Ls p f o (i + 1) = kS B Ls p f o i + (if qS B Ls p f o i (mS p f) = true then mS p f else (rS B Ls p f o i (mS p f)).length + 1) /\ bS B Ls p f o (i + 1) = qS B Ls p f o i (mS p f) :=
 Y1ca (N := fun x => nm (Yii Ls) aS x 1) h e2 rfl rfl
theorem Y1gt {i n : Nat} (h : bS B Ls p f o i = false) (hn : i <= n) : oS B Ls p f o n = oS B Ls p f o i /\ bS B Ls p f o n = false :=
 have t := Y1ch (N := fun x => nm (Yii Ls) aS x 1) h hn
 ⟨t.1, t.2.2⟩
theorem Y17l (hf : fS p f = true) (i : Nat) (hi : i <= p.items.length) : (bS B Ls p f o i = true -> (kS B Ls p f o i : Int) = kF (aS p.items) (mS p f) i /\ ∃ c, oS B Ls p f o i = o ++ c /\ c.length <= Yhb Yhk (p.items.take i) /\
        mts (mng B) (Yii Ls) aS p.items 0 (aS p.items) (mS p f) f.items = (mts (mng B) (Yii Ls) aS (p.items.drop i) i (aS p.items) (mS p f) (f.items.drop (kS B Ls p f o i))).map (c ++ ·)) /\
    (bS B Ls p f o i = false -> mts (mng B) (Yii Ls) aS p.items 0 (aS p.items) (mS p f) f.items = none) := by
  have h := Y1g4 hf
  refine Y17o (fun ha => ?_) (fun ha => ?_) i hi
  · rcases h.2 with h | ⟨a, h⟩ <;> omega
  · rcases h.2 with h | ⟨a, h⟩ <;> omega
theorem Y1la (hf : fS p f = true) {i : Nat} (hi : i < p.items.length) (h : bS B Ls p f o i = true) : (oS B Ls p f o i).length + Yhk (p.items.getD i default) + 1 <= o.length + Yhk p /\
  (¬ (i : Int) = aS p.items -> ¬ (i : Int) + 1 = aS p.items -> kS B Ls p f o i < f.items.length) /\ ((i : Int) + 1 = aS p.items -> kS B Ls p f o i + mS p f <= f.items.length) := by
 obtain ⟨hk, c, hc, hl, _⟩ := (Y17l (B := B) (Ls := Ls) (o := o) hf i (by omega)).1 h
 have hs := Yl0 hi
 have hfs := Y1g4 hf
 refine ⟨by rw [hc, List.length_append]; omega, fun h1 h2 => ?_, fun h1 => ?_⟩
 ·unfold kF at hk
  rcases hfs.2 with h3 | ⟨a, h3⟩
  ·rw [if_pos (by omega)] at hk; omega
  ·split at hk
   ·omega
   ·first | omega | (rw [if_neg h1] at hk; omega)
 ·unfold kF at hk
  rcases hfs.2 with h3 | ⟨a, h3⟩
  ·omega
  ·rw [if_pos (by omega)] at hk; omega
theorem Y17t (h0 : p.kind = 0) : gS B Ls p f = if fS p f = true then mts (mng B) (Yii Ls) aS p.items 0 (aS p.items) (mS p f) f.items else none := by
 unfold gS; rw [Yl8, if_neg (by omega), if_pos h0]; rfl
theorem Y1jt (h0 : p.kind = 0) (hf : fS p f = false) : gS B Ls p f = none := by rw [Y17t h0, hf]; rfl
theorem Y1cp (h0 : p.kind = 0) (hf : fS p f = true) : (gS B Ls p f).isSome = bS B Ls p f o p.items.length /\ smO p o (gS B Ls p f) = if bS B Ls p f o p.items.length = true then oS B Ls p f o p.items.length else [] := by
 rw [Y17t h0, if_pos hf]
 have hm := Y17l (B := B) (Ls := Ls) (o := o) hf _ (Nat.le_refl _)
 cases hb : bS B Ls p f o p.items.length with
 | false => rw [hm.2 hb]; exact ⟨rfl, by unfold smO flM; rw [if_pos h0]; rfl⟩
 | true =>
  obtain ⟨_, c, hc, _, he⟩ := hm.1 hb
  rw [he, hc, List.drop_length]
  simp only [mts, Option.map, smO, List.append_nil]
  exact ⟨rfl, rfl⟩
theorem Yvu (x : YS) (r : Option (List YC)) : smO x [] r = r.getD [] := by cases r <;> simp [smO, flM]
theorem Yow {x : YS} (h : x.kind = 0) : smO x o none = [] := if_pos h
theorem Y1d6 {x y : YS} {c : List YC} (h : gS B Ls x y = some c) : c.length = (nS Ls x).length := by
 rw [nS, Y17y]; exact Y13n _ _ _ h
theorem Y109 (x : YS) : (nS Ls x).length <= Yhk x := Ys4 _ _ _ _
theorem Y1ln (hg : good Ls p) (h0 : p.kind = 0) {i : Nat} (hi : i < p.items.length) (ha : (i : Int) + 1 = aS p.items) : nS Ls (p.items.getD i default) = (eV Ls (p.items.getD i default)).map upC /\ (vrS Ls (p.items.getD i default) 0 []) = some (eV Ls (p.items.getD i default)) := by
 obtain ⟨h1, _⟩ := Ysp hg h0 hi ha
 have e : eV Ls (p.items.getD i default) = nm (Yii Ls) aS (p.items.getD i default) 0 := by unfold eV; rw [h1]; rfl
 refine ⟨?_, by rw [e, h1]⟩
 rw [e]
 exact Y1cd _ _ _ 0
theorem Y1cz (V : List YC) : Yin V 0 = V := by simp [Yin]
theorem Y1fq {V : List YC} {i : Nat} (h : V.length <= i) : Yin V i = V.map upC := by simp [Yin, List.take_of_length_le h, List.drop_eq_nil_of_le h]
theorem Y1ff (V : List YC) (i : Nat) : (Yin V i).length = V.length := by simp [Yin, List.length_take, List.length_drop]; omega
theorem Y14n {V : List YC} {i : Nat} (h : i < V.length) : (Yin V i).getD i default = V.getD i default := by
 simp [Yin, List.getD_eq_getElem?_getD, List.getElem?_append, List.length_take, List.getElem?_drop, Nat.min_eq_left (Nat.le_of_lt h)]
theorem Y1cu {V : List YC} {i : Nat} (h : i < V.length) : (Yin V i).set i (upC (V.getD i default)) = Yin V (i + 1) := by
 apply List.ext_getElem?
 intro j
 simp only [Yin, List.getElem?_set, List.getElem?_append, List.length_map, List.length_take, List.length_append, List.length_drop, List.getElem?_map, List.getElem?_take, List.getElem?_drop, List.getD_eq_getElem?_getD, Nat.min_eq_left (Nat.le_of_lt h), Nat.min_eq_left (show i + 1 <= V.length from h)]
 by_cases h1 : i = j
 ·subst h1; simp [h]; omega
 ·rw [if_neg h1]
  by_cases h2 : j < i
  ·rw [if_pos h2, if_pos h2, if_pos (by omega), if_pos (by omega)]
  ·rw [if_neg h2, if_neg (by omega)]; congr 1; omega
theorem Y1md (x : YC) : (⟨x.name, x.depth, x.form, x.each⟩ : YC) = x := by cases x; rfl
theorem Y1b6 (V : List YC) : rp V [] = V := by
 apply List.ext_getElem?
 intro j
 simp only [rp, List.getElem?_map, List.getElem?_range', List.map_nil, List.append_nil, List.range_eq_range']
 by_cases h : j < V.length
 ·simp [h]; exact Y1md _
 ·simp [h]
theorem Y150 {V : List YC} {R : List (List YC)} {i : Nat} (h : i < V.length) : (rp V R).getD i default = ⟨(V.getD i default).name, (V.getD i default).depth, (V.getD i default).form, (V.getD i default).each ++ R.map fun c => c.getD i default⟩ := by
 simp [rp, List.getD_eq_getElem?_getD, List.getElem?_range, h]
theorem Yv4 (V : List YC) (R : List (List YC)) (c : List YC) : Yjb V R c 0 = rp V R := by simp [Yjb]
theorem Y154 {V : List YC} {R : List (List YC)} {c : List YC} {u : Nat} (h : V.length <= u) : Yjb V R c u = rp V (R ++ [c]) := by
 unfold Yjb; rw [List.take_of_length_le (by rw [Ymg]; exact h), List.drop_eq_nil_of_le (by rw [Ymg]; exact h), List.append_nil]
theorem Y13q (V : List YC) (R : List (List YC)) (c : List YC) (u : Nat) : (Yjb V R c u).length = V.length := by
 simp only [Yjb, List.length_append, List.length_take, List.length_drop, Ymg]; omega
theorem Y14j {V : List YC} {R : List (List YC)} {c : List YC} {u : Nat} (h : u < V.length) : (Yjb V R c u).getD u default = (rp V R).getD u default := by
 simp [Yjb, List.getD_eq_getElem?_getD, List.getElem?_append, List.length_take, List.getElem?_drop, Ymg, Nat.min_eq_left (Nat.le_of_lt h)]
theorem Y1do {V : List YC} {R : List (List YC)} {c : List YC} {u : Nat} (h : u < V.length) : (Yjb V R c u).set u ⟨((rp V R).getD u default).name, ((rp V R).getD u default).depth, ((rp V R).getD u default).form, ((rp V R).getD u default).each ++ [c.getD u default]⟩ = Yjb V R c (u + 1) := by
 have e : (⟨((rp V R).getD u default).name, ((rp V R).getD u default).depth, ((rp V R).getD u default).form, ((rp V R).getD u default).each ++ [c.getD u default]⟩ : YC) = (rp V (R ++ [c])).getD u default := by
  rw [Y150 h, Y150 h]; simp
 rw [e]
 apply List.ext_getElem?
 intro j
 have hl := Ymg V R
 have hl2 := Ymg V (R ++ [c])
 simp only [Yjb, List.getElem?_set, List.getElem?_append, List.length_take, List.length_append, List.length_drop, List.getElem?_take, List.getElem?_drop, List.getD_eq_getElem?_getD, hl, hl2, Nat.min_eq_left (Nat.le_of_lt h), Nat.min_eq_left (show u + 1 <= V.length from h)]
 by_cases h1 : u = j
 ·subst h1
  rw [if_pos rfl, if_pos (by omega), if_pos (by omega)]
  have : (rp V (R ++ [c]))[u]? = some ((rp V (R ++ [c]))[u]'(by omega)) := List.getElem?_eq_getElem _
  rw [this, if_pos (Nat.lt_succ_self u)]; rfl
 ·rw [if_neg h1]
  by_cases h2 : j < u
  ·rw [if_pos h2, if_pos h2, if_pos (by omega), if_pos (by omega)]
  ·rw [if_neg h2, if_neg (by omega)]; congr 1; omega
abbrev Yxi (L : List YC) (u : Nat) : List (List Cell) := (L.take u).map Ypu ++ (L.drop u).map Yha
theorem Y1cw {L : List YC} {u : Nat} (h : u < L.length) : (Yxi L u)[u]? = some (Yha (L.getD u default)) := by
 simp [Yxi, List.getD_eq_getElem?_getD, List.getElem?_append, List.length_take, List.getElem?_drop, h, Nat.min_eq_left (Nat.le_of_lt h)]
theorem Y1aj {L : List YC} {u : Nat} (h : u < L.length) : (Yxi L u).set u (Ypu (L.getD u default)) = Yxi L (u + 1) := by
 apply List.ext_getElem?
 intro j
 simp only [Yxi, List.getElem?_set, List.getElem?_append, List.length_map, List.length_take, List.length_append, List.length_drop, List.getElem?_map, List.getElem?_take, List.getElem?_drop, List.getD_eq_getElem?_getD, Nat.min_eq_left (Nat.le_of_lt h), Nat.min_eq_left (show u + 1 <= L.length from h)]
 by_cases h1 : u = j
 ·subst h1; simp [h]; omega
 ·rw [if_neg h1]
  by_cases h2 : j < u
  ·rw [if_pos h2, if_pos h2, if_pos (by omega), if_pos (by omega)]
  ·rw [if_neg h2, if_neg (by omega)]; congr 2; omega
theorem Y1h5 (i : Nat) : rS B Ls p f o i 0 = [] /\ qS B Ls p f o i 0 = true := ⟨rfl, rfl⟩
theorem Y102 {i t : Nat} {c : List YC} (h : qS B Ls p f o i t = true) (hc : gS B Ls (p.items.getD i default) (f.items.getD (kS B Ls p f o i + t) default) = some c) : rS B Ls p f o i (t + 1) = rS B Ls p f o i t ++ [c] /\ qS B Ls p f o i (t + 1) = true := by
 unfold rS qS; rw [Ywo h hc]; exact ⟨rfl, rfl⟩
theorem Yzm {i t : Nat} (h : qS B Ls p f o i t = true) (hc : gS B Ls (p.items.getD i default) (f.items.getD (kS B Ls p f o i + t) default) = none) : rS B Ls p f o i (t + 1) = rS B Ls p f o i t /\ qS B Ls p f o i (t + 1) = false := by
 unfold rS qS; rw [Yws h hc]; exact ⟨rfl, rfl⟩
theorem Y1bp {i t : Nat} (h : qS B Ls p f o i t = true) : (rS B Ls p f o i t).length = t := Yzx t h
theorem Y1gs {i t : Nat} (h : qS B Ls p f o i t = false) {n : Nat} (hn : t <= n) : rS B Ls p f o i n = rS B Ls p f o i t /\ qS B Ls p f o i n = false := by
 have e := Ysw h (n - t)
 rw [show t + (n - t) = n by omega] at e
 unfold rS qS at *; rw [e]; exact ⟨rfl, h⟩
end
def Ymx (B : List YB) (Ls : List YS) (p f : YS) (o : List YC) (s t : Nat) : List YC := (gS B Ls (p.items.getD s default) (f.items.getD (kS B Ls p f o s + t) default)).getD []
theorem Y1ie {B : List YB} {Ls : List YS} {p f : YS} {o : List YC} (hk : p.kind = 1) (h : Yiv p = true) : gS B Ls p f = some [] /\ smO p o (gS B Ls p f) = o := by
 have e : gS B Ls p f = some [] := by unfold gS; rw [Yl8, if_pos hk, if_pos h]
 rw [e]; exact ⟨rfl, List.append_nil o⟩
theorem Y156 {B : List YB} {Ls : List YS} {p f : YS} {o : List YC} (hk : p.kind = 1) (h : Yiv p = false) (h2 : Yii Ls p = true) : (gS B Ls p f).isSome = (decide (f.kind = 1) && mng B p f) /\ smO p o (gS B Ls p f) = o := by
 have e : gS B Ls p f = if f.kind = 1 /\ mng B p f = true then some [] else none := by unfold gS; rw [Yl8, if_pos hk, if_neg (by simp [h]), if_pos h2]
 rw [e]
 by_cases hc : f.kind = 1 /\ mng B p f = true
 ·rw [if_pos hc]; exact ⟨by simp [hc.1, hc.2], List.append_nil o⟩
 ·rw [if_neg hc]
  refine ⟨?_, by unfold smO flM; simp only; rw [if_neg (by omega)]⟩
  cases h3 : decide (f.kind = 1) <;> cases h4 : mng B p f <;> simp_all
theorem Y1ds {B : List YB} {Ls : List YS} {p f : YS} {o : List YC} (hk : p.kind = 1) (h : Yiv p = false) (h2 : Yii Ls p = false) : gS B Ls p f = some [Yqc p f] /\ smO p o (gS B Ls p f) = o ++ [Yqc p f] := by
 have e : gS B Ls p f = some [Yqc p f] := by unfold gS; rw [Yl8, if_pos hk, if_neg (by simp [h]), if_neg (by simp [h2])]
 rw [e]; exact ⟨rfl, rfl⟩
theorem Ytd {B : List YB} {Ls : List YS} {p f : YS} {o : List YC} (hk : ¬ p.kind = 1) (h0 : ¬ p.kind = 0) : (gS B Ls p f).isSome = (decide (f.kind = p.kind) && decide (f.number = p.number) && decide (f.text = p.text)) /\ smO p o (gS B Ls p f) = o := by
 have e : gS B Ls p f = if f.kind = p.kind /\ f.number = p.number /\ f.text = p.text then some [] else none := by unfold gS; rw [Yl8, if_neg hk, if_neg h0]
 rw [e]
 by_cases hc : f.kind = p.kind /\ f.number = p.number /\ f.text = p.text
 ·rw [if_pos hc]; exact ⟨by simp [hc.1, hc.2.1, hc.2.2], List.append_nil o⟩
 ·rw [if_neg hc]
  refine ⟨?_, by unfold smO flM; simp only; rw [if_neg h0]⟩
  symm; simp only [Option.isSome]; rw [Bool.eq_false_iff]; simp only [ne_eq, Bool.and_eq_true, decide_eq_true_eq]; rintro ⟨⟨a, b⟩, c⟩; exact hc ⟨a, b, c⟩
theorem Y10h (o : List YC) (p f : YS) : o.map Yha ++ [[cI p.kind, cI p.number, cS p.text, Cell.list (List.map Yhd p.scopes), Cell.list (List.map Yh9 p.items), cI 0, cI f.kind, cI f.number, cS f.text, Cell.list (List.map Yhd f.scopes), Cell.list (List.map Yh9 f.items), Cell.list []]] = (o ++ [Yqc p f]).map Yha :=
 Yhe (C := Yha) o (Yqc p f)
theorem Y1ih {Ls : List YS} {p : YS} (hp : Yi2 p = true) (hv : (vrS Ls p 0 []).isSome = true) : good Ls p /\ Yhk p <= 2000 /\ Yi1 p <= 40 := by
 simp only [Yi2, Bool.and_eq_true, decide_eq_true_eq] at hp
 obtain ⟨r, hr⟩ := Option.isSome_iff_exists.1 hv
 exact ⟨⟨hp.2, 0, [], r, by omega, hr⟩, hp.1.1, hp.1.2⟩
end Go.Proofs.YtpnaoendfpaodaaGreat
end
section
namespace Go.Proofs.YtpnaoendfpaodaaGreat
open Go Ab
def alM (g : YS -> YS -> Option (List YC)) : List YS -> List YS -> Option (List YC)
 | [], _ => some []
 | x :: r, fs => match g x (fs.getD 0 default) with
  | none => none
  | some c => match alM g r (fs.drop 1) with
   | none => none
   | some d => some (c ++ d)
def alO (o : List YC) (r : Option (List YC)) : List YC := match r with | none => [] | some c => o ++ c
theorem Ysn (g : YS -> YS -> Option (List YC)) : ∀ (A C : List YS) (fs : List YS), alM g (A ++ C) fs = match alM g A fs with | none => none | some c => match alM g C (fs.drop A.length) with | none => none | some d => some (c ++ d)
 | [], C, fs => by
  simp only [List.nil_append, alM, List.length_nil, List.drop_zero]
  cases alM g C fs <;> rfl
 | y :: A, C, fs => by
  have e : (fs.drop 1).drop A.length = fs.drop (y :: A).length := by rw [List.drop_drop, List.length_cons, Nat.add_comm]
  simp only [List.cons_append, alM, Ysn g A C, e]
  cases g y (fs.getD 0 default) with
  | none => rfl
  | some c =>
   cases alM g A (fs.drop 1) with
   | none => rfl
   | some d =>
    cases alM g C (fs.drop (y :: A).length) with
    | none => rfl
    | some d2 => simp [List.append_assoc]
theorem Y1fl {g : YS -> YS -> Option (List YC)} {ps fs : List YS} {k : Nat} (h : k < ps.length) : alM g (ps.take (k + 1)) fs = match alM g (ps.take k) fs with | none => none | some c => (match g (ps.getD k default) (fs.getD k default) with | none => none | some d => some (c ++ d)) := by
 have e : (fs.drop k).getD 0 default = fs.getD k default := by simp [List.getD_eq_getElem?_getD]
 rw [Yhy h, Ysn, List.length_take, Nat.min_eq_left (Nat.le_of_lt h)]
 simp only [alM, e]
 cases alM g (ps.take k) fs with
 | none => rfl
 | some c => cases g (ps.getD k default) (fs.getD k default) <;> simp
theorem Y1ib {g : YS -> YS -> Option (List YC)} {ps fs : List YS} {o : List YC} : alO o (alM g (ps.take 0) fs) = o /\ (alM g (ps.take 0) fs).isSome = true := by
 simp [alM, alO]
theorem Y1l9 {g : YS -> YS -> Option (List YC)} {ps fs : List YS} {o : List YC} {k : Nat} (h : k < ps.length) (hs : (alM g (ps.take k) fs).isSome = true) :
  (alM g (ps.take (k + 1)) fs).isSome = (g (ps.getD k default) (fs.getD k default)).isSome /\ ((g (ps.getD k default) (fs.getD k default)).isSome = true -> alO o (alM g (ps.take (k + 1)) fs) = smO (ps.getD k default) (alO o (alM g (ps.take k) fs)) (g (ps.getD k default) (fs.getD k default))) := by
 obtain ⟨c, hc⟩ := Option.isSome_iff_exists.1 hs
 rw [Y1fl h, hc]
 cases g (ps.getD k default) (fs.getD k default) with
 | none => exact ⟨rfl, fun h => by cases h⟩
 | some d => exact ⟨rfl, fun _ => by simp [alO, smO, List.append_assoc]⟩
theorem Y1gp {g : YS -> YS -> Option (List YC)} {ps fs : List YS} {k : Nat} (h : (alM g (ps.take k) fs).isSome = false) : alM g ps fs = none := by
 have e := Ysn g (ps.take k) (ps.drop k) fs
 rw [List.take_append_drop] at e
 cases h2 : alM g (ps.take k) fs with
 | none => rw [h2] at e; exact e
 | some c => rw [h2] at h; cases h
theorem Y1iw {g : YS -> YS -> Option (List YC)} {ps fs : List YS} {k : Nat} (h : ps.length <= k) : alM g (ps.take k) fs = alM g ps fs := by rw [List.take_of_length_le h]
theorem Y16x {g : YS -> YS -> Option (List YC)} : ∀ (ps : List YS) (fs : List YS) (c : List YC), (∀ x ∈ ps, ∀ f c, g x f = some c -> c.length <= Yhk x) -> alM g ps fs = some c -> c.length <= Yhb Yhk ps
 | [], fs, c, _, e => by simp only [alM, Option.some.injEq] at e; subst e; simp [Yhb]
 | x :: r, fs, c, h, e => by
  simp only [alM] at e
  simp only [Yhb]
  split at e
  ·cases e
  ·rename_i c1 h1
   split at e
   ·cases e
   ·rename_i c2 h2
    simp only [Option.some.injEq] at e; subst e
    have := Y16x r _ _ (fun y hy => h y (List.mem_cons_of_mem _ hy)) h2
    have := h x List.mem_cons_self _ _ h1
    rw [List.length_append]; omega
theorem Y13c (g : YS -> YS -> Option (List YC)) : ∀ (ps fs : List YS) (n : Nat), ps.length <= n -> alM g ps (fs.take n) = alM g ps fs
 | [], _, _, _ => rfl
 | x :: r, fs, n, h => by
  cases n with
  | zero => simp at h
  | succ n =>
   have h' : r.length <= n := by simpa using h
   cases fs with
   | nil => simp [alM]
   | cons f fs => simp only [alM, List.take_succ_cons, List.drop_succ_cons, List.drop_zero, List.getD_cons_zero, Y13c g r fs n h']
theorem Yv2 {M : YS -> YS -> Bool} {H : YS -> Bool} {A : List YS -> Int} {a : Int} {m : Nat} : ∀ (l : List YS) (i : Int) (fs : List YS), (∀ k : Nat, k < l.length -> i + k ≠ a /\ i + k + 1 ≠ a) -> mts M H A l i a m fs = alM (mt M H A) l fs
 | [], _, _, _ => by simp [mts, alM]
 | x :: r, i, fs, h => by
  have h0 := h 0 (by simp)
  have ih := Yv2 (M := M) (H := H) (A := A) (a := a) (m := m) r (i + 1) (fs.drop 1) (fun k hk => by
   have := h (k + 1) (by simp; omega)
   rw [show i + ((k + 1 : Nat) : Int) = i + 1 + (k : Int) by omega] at this; exact this)
  simp only [mts, alM]
  rw [if_neg (by simpa using h0.1), if_neg (by simpa using h0.2), ih]
  all_goals rfl
theorem Y17n {M : YS -> YS -> Bool} {H : YS -> Bool} {A : List YS -> Int} {a : Int} {m : Nat} {x y : YS} {post : List YS} : ∀ (pre : List YS) (i : Int) (fs : List YS), i + pre.length + 1 = a ->
  mts M H A (pre ++ x :: y :: post) i a m fs = match alM (mt M H A) pre fs with | none => none | some c1 => (match mtr (mt M H A x) ((fs.drop pre.length).take m) with | none => none | some R => (match alM (mt M H A) post (fs.drop (pre.length + m)) with | none => none | some c2 => some (c1 ++ (rp (nm H A x 1) R ++ c2))))
 | [], i, fs, h => by
  have h1 : ¬ i = a := by simp at h; omega
  have h2 : i + 1 = a := by simpa using h
  have e := Yv2 (M := M) (H := H) (A := A) (a := a) (m := m) post (i + 1 + 1) (fs.drop m) (fun k _ => by omega)
  simp only [List.nil_append, mts, alM, List.length_nil, List.drop_zero, Nat.zero_add]
  rw [if_neg h1, if_pos h2, if_pos h2, e]
  all_goals rfl
 | z :: pre, i, fs, h => by
  have hl : ((z :: pre).length : Int) = pre.length + 1 := by simp
  have h1 : ¬ i = a := by omega
  have h2 : ¬ i + 1 = a := by omega
  have ih := Y17n (M := M) (H := H) (A := A) (a := a) (m := m) (x := x) (y := y) (post := post) pre (i + 1) (fs.drop 1) (by omega)
  have e1 : (fs.drop 1).drop pre.length = fs.drop (z :: pre).length := by rw [List.drop_drop, List.length_cons, Nat.add_comm]
  have e2 : (fs.drop 1).drop (pre.length + m) = fs.drop ((z :: pre).length + m) := by rw [List.drop_drop, List.length_cons]; congr 1; omega
  simp only [List.cons_append, mts, alM]
  rw [if_neg h1, if_neg h2, ih, e1, e2]
  cases mt M H A z (fs.getD 0 default) with
  | none => rfl
  | some c =>
   simp only
   cases alM (mt M H A) pre (fs.drop 1) with
   | none => rfl
   | some c1 =>
    simp only
    cases mtr (mt M H A x) ((fs.drop (z :: pre).length).take m) with
    | none => rfl
    | some R =>
     simp only
     cases alM (mt M H A) post (fs.drop ((z :: pre).length + m)) with
     | none => rfl
     | some c2 => simp [List.append_assoc]
def gI (B : List YB) (Ls : List YS) : YS -> YS -> Option (List YC) := mt (mng B) (Ykd Ls) atI
def nI (Ls : List YS) (x : YS) : List YC := nm (Ykd Ls) atI x 1
def aT (p : YS) : Nat := (atI p.items - 1).toNat
def xI (p : YS) : YS := p.items.getD (aT p) default
def mI2 (p f : YS) : Nat := ((f.items.length : Int) - ((p.items.length : Int) - 2)).toNat
def rI (B : List YB) (Ls : List YS) (p f : YS) (t : Nat) : List (List YC) := (rws (gI B Ls (xI p)) f.items (aT p) t).1
def qI (B : List YB) (Ls : List YS) (p f : YS) (t : Nat) : Bool := (rws (gI B Ls (xI p)) f.items (aT p) t).2
section
variable {B : List YB} {Ls : List YS} {p f : YS} {o : List YC}
theorem Y1bb {x y : YS} {c : List YC} (h : gI B Ls x y = some c) : c.length = (nI Ls x).length := by
 rw [nI, Y17y]; exact Y13n _ _ _ h
theorem Yzs (x : YS) : (nI Ls x).length <= Yhk x := Ys4 _ _ _ _
theorem Y1hz {ps fs : List YS} {c : List YC} (h : alM (gI B Ls) ps fs = some c) : c.length <= Yhb Yhk ps :=
 Y16x ps fs c (fun x _ f c e => by have := Y1bb e; have := Yzs (Ls := Ls) x; omega) h
theorem Y178 {ps fs : List YS} : (alO o (alM (gI B Ls) ps fs)).length <= o.length + Yhb Yhk ps := by
 cases h : alM (gI B Ls) ps fs with
 | none => simp [alO]
 | some c => have := Y1hz h; simp only [alO, List.length_append]; omega
theorem Yvj (h0 : p.kind = 0) : gI B Ls p f = if Yqn (atI p.items) p.items f = true then mts (mng B) (Ykd Ls) atI p.items 0 (atI p.items) (Ymq (atI p.items) p.items.length f.items.length).toNat f.items else none := by
 unfold gI; rw [Yl8, if_neg (by omega), if_pos h0]
theorem Y1h0 (h0 : p.kind = 0) (hf : ¬ f.kind = 0) : gI B Ls p f = none := by
 rw [Yvj h0, if_neg (by simp [Yqn, hf])]
theorem Y181 (h0 : p.kind = 0) (hf : f.kind = 0) (ha : atI p.items < 0) : gI B Ls p f = if p.items.length = f.items.length then alM (gI B Ls) p.items f.items else none := by
 have e : Yqn (atI p.items) p.items f = decide (f.items.length = p.items.length) := by
  simp only [Yqn, Ymq, if_neg (show ¬ 0 <= atI p.items by omega), hf]; simp; omega
 rw [Yvj h0, e, Yv2 _ _ _ (fun k _ => by omega)]
 by_cases h : p.items.length = f.items.length
 ·rw [if_pos h, if_pos (by simp [h])]; rfl
 ·rw [if_neg h, if_neg (by simp; omega)]
theorem Y1j9 (h0 : p.kind = 0) (hf : f.kind = 0) (ha : 0 <= atI p.items) (hm : (f.items.length : Int) - ((p.items.length : Int) - 2) < 0) : gI B Ls p f = none := by
 have e : Yqn (atI p.items) p.items f = false := by
  simp only [Yqn, Ymq, if_pos ha]; simp; omega
 rw [Yvj h0, e]; rfl
theorem Yzc (h0 : p.kind = 0) (hf : f.kind = 0) (ha : 1 <= atI p.items) (hl : atI p.items < p.items.length) (hm : 0 <= (f.items.length : Int) - ((p.items.length : Int) - 2)) :
  gI B Ls p f = match alM (gI B Ls) (p.items.take (aT p)) (f.items.take (aT p)) with | none => none | some c1 => if qI B Ls p f (mI2 p f) = true then (match alM (gI B Ls) (p.items.drop (aT p + 2)) (f.items.drop (aT p + mI2 p f)) with | none => none | some c2 => some (c1 ++ (rp (nI Ls (xI p)) (rI B Ls p f (mI2 p f)) ++ c2))) else none := by
 have e : Yqn (atI p.items) p.items f = true := by
  simp only [Yqn, Ymq, if_pos (show 0 <= atI p.items by omega), hf]; simp; omega
 have ea : (aT p : Int) + 1 = atI p.items := by unfold aT; omega
 have em : (Ymq (atI p.items) p.items.length f.items.length).toNat = mI2 p f := by unfold Ymq mI2; rw [if_pos (by omega)]
 have h1 : aT p < p.items.length := by omega
 have h2 : aT p + 1 < p.items.length := by omega
 have es : p.items = p.items.take (aT p) ++ (xI p :: p.items.getD (aT p + 1) default :: p.items.drop (aT p + 2)) := by
  have e1 : p.items.drop (aT p) = xI p :: p.items.drop (aT p + 1) := by
   rw [List.drop_eq_getElem_cons h1]; simp [xI, h1]
  have e2 : p.items.drop (aT p + 1) = p.items.getD (aT p + 1) default :: p.items.drop (aT p + 2) := by
   rw [List.drop_eq_getElem_cons h2]; simp [h2]
  rw [<- e2, <- e1, List.take_append_drop]
 have el : (p.items.take (aT p)).length = aT p := by rw [List.length_take, Nat.min_eq_left (by omega)]
 have er : aT p + mI2 p f <= f.items.length := by unfold mI2; omega
 rw [Yvj h0, e, if_pos rfl, em]
 have k := Y17n (M := mng B) (H := Ykd Ls) (A := atI) (a := atI p.items) (m := mI2 p f) (x := xI p) (y := p.items.getD (aT p + 1) default) (post := p.items.drop (aT p + 2)) (p.items.take (aT p)) 0 f.items (by rw [el]; omega)
 rw [<- es, el] at k
 rw [k, Yza (mI2 p f) er, Y13c _ _ _ _ (by rw [el]; exact Nat.le_refl _)]
 show (match alM (gI B Ls) _ _ with | none => none | some c1 => _) = _
 cases alM (gI B Ls) (p.items.take (aT p)) f.items with
 | none => rfl
 | some c1 =>
  show (match (if qI B Ls p f (mI2 p f) = true then some (rI B Ls p f (mI2 p f)) else none) with | none => none | some R => _) = _
  by_cases hq : qI B Ls p f (mI2 p f) = true
  ·rw [if_pos hq]; simp only [hq, if_pos]; rfl
  ·rw [if_neg hq]; simp only; rw [if_neg hq]
theorem Y1js (h0 : p.kind = 0) (hf : f.kind = 0) (ha : 1 <= atI p.items) (hl : atI p.items < p.items.length) (hm : 0 <= (f.items.length : Int) - ((p.items.length : Int) - 2)) (h : (alM (gI B Ls) (p.items.take (aT p)) (f.items.take (aT p))).isSome = false) : gI B Ls p f = none := by
 rw [Yzc h0 hf ha hl hm]
 cases h2 : alM (gI B Ls) (p.items.take (aT p)) (f.items.take (aT p)) with
 | none => rfl
 | some c => rw [h2] at h; cases h
theorem Y1hd {t : Nat} (h : qI B Ls p f t = false) {n : Nat} (hn : t <= n) : qI B Ls p f n = false := by
 have e := Ysw h (n - t)
 rw [show t + (n - t) = n by omega] at e
 unfold qI at *; rw [e]; exact h
theorem Y1e4 (h0 : p.kind = 0) (hf : f.kind = 0) (ha : 1 <= atI p.items) (hl : atI p.items < p.items.length) (hm : 0 <= (f.items.length : Int) - ((p.items.length : Int) - 2)) {t : Nat} (ht : t <= mI2 p f) (h : qI B Ls p f t = false) : gI B Ls p f = none := by
 rw [Yzc h0 hf ha hl hm, Y1hd h ht]
 cases alM (gI B Ls) (p.items.take (aT p)) (f.items.take (aT p)) <;> rfl
theorem Y1ik (h0 : p.kind = 0) (hf : f.kind = 0) (ha : 1 <= atI p.items) (hl : atI p.items < p.items.length) (hm : 0 <= (f.items.length : Int) - ((p.items.length : Int) - 2)) (h : (alM (gI B Ls) (p.items.take (aT p)) (f.items.take (aT p))).isSome = true) (hq : qI B Ls p f (mI2 p f) = true) :
  (gI B Ls p f).isSome = (alM (gI B Ls) (p.items.drop (aT p + 2)) (f.items.drop (aT p + mI2 p f))).isSome /\ smO p o (gI B Ls p f) = alO (alO o (alM (gI B Ls) (p.items.take (aT p)) (f.items.take (aT p))) ++ rp (nI Ls (xI p)) (rI B Ls p f (mI2 p f))) (alM (gI B Ls) (p.items.drop (aT p + 2)) (f.items.drop (aT p + mI2 p f))) := by
 obtain ⟨c, hc⟩ := Option.isSome_iff_exists.1 h
 rw [Yzc h0 hf ha hl hm, hc]
 simp only [hq, ↓reduceIte]
 cases alM (gI B Ls) (p.items.drop (aT p + 2)) (f.items.drop (aT p + mI2 p f)) with
 | none => exact ⟨rfl, by simp [smO, flM, h0, alO]⟩
 | some d => exact ⟨rfl, by simp [smO, alO, List.append_assoc]⟩
theorem Y1fe (h0 : p.kind = 0) (hf : f.kind = 0) (ha : atI p.items < 0) (hl : p.items.length = f.items.length) : (gI B Ls p f).isSome = (alM (gI B Ls) p.items f.items).isSome /\ smO p o (gI B Ls p f) = alO o (alM (gI B Ls) p.items f.items) := by
 rw [Y181 h0 hf ha, if_pos hl]
 cases alM (gI B Ls) p.items f.items with
 | none => exact ⟨rfl, by simp [smO, flM, h0, alO]⟩
 | some d => exact ⟨rfl, rfl⟩
theorem Y1h7 {t : Nat} {c : List YC} (h : qI B Ls p f t = true) (hc : gI B Ls (xI p) (f.items.getD (aT p + t) default) = some c) : rI B Ls p f (t + 1) = rI B Ls p f t ++ [c] /\ qI B Ls p f (t + 1) = true := by
 unfold rI qI; rw [Ywo h hc]; exact ⟨rfl, rfl⟩
theorem Y1i8 {t : Nat} (h : qI B Ls p f t = true) (hc : gI B Ls (xI p) (f.items.getD (aT p + t) default) = none) : qI B Ls p f (t + 1) = false := by
 unfold qI; rw [Yws h hc]
theorem Y1kl {t : Nat} (h : qI B Ls p f t = true) : (rI B Ls p f t).length = t := Yzx t h
def Ym0 (B : List YB) (Ls : List YS) (p f : YS) (t : Nat) : List YC := (gI B Ls (xI p) (f.items.getD (aT p + t) default)).getD []
theorem Ypl (hg : good Ls p) (h0 : p.kind = 0) : atI p.items = aS p.items /\ (atI p.items = -1 ∨ 1 <= atI p.items /\ atI p.items < p.items.length) := by
 have hs := Ysv hg h0
 have e1 : aS p.items = atI p.items := by rw [(Y143 hs).1]; exact if_pos hs
 refine ⟨e1.symm, ?_⟩
 rcases Y1g8 p.items with h | ⟨a, h1, h2, h3⟩
 ·exact .inl (by rw [<- e1]; exact h)
 ·exact .inr ⟨by omega, by omega⟩
theorem Yt6 (ha : 1 <= atI p.items) (hl : atI p.items < p.items.length) : (aT p : Int) = atI p.items - 1 /\ aT p + 2 <= p.items.length := by
 unfold aT; omega
theorem Y17k (hg : good Ls p) (h0 : p.kind = 0) (ha : 1 <= atI p.items) (hl : atI p.items < p.items.length) : good Ls (xI p) /\ xI p ∈ p.items := by
 have h := Yt6 ha hl
 have e := Ypl hg h0
 exact ⟨Yo3 hg h0 (k := aT p) (by omega) (by omega), Yhj (by omega)⟩
theorem Y1kr (hL : Ls.all Yk9 = true) (hg : good Ls p) (h0 : p.kind = 0) (ha : 1 <= atI p.items) (hl : atI p.items < p.items.length) : vrI Ls (xI p) 1 [] = some (nI Ls (xI p)) := by
 have h := Yt6 ha hl
 have e := Ypl hg h0
 have hL' := List.all_eq_true.1 hL
 have hx := Y17k hg h0 ha hl
 have h1 := (Ysp hg h0 (k := aT p) (by omega) (by omega)).2
 have h2 := (Y17i hL' (xI p) hx.1.1 1 [] (by simp)).1
 have h3 := (Y177 (M := fun _ _ => true) hL' (xI p) hx.1).2 1
 rw [h2]
 show vrS Ls (p.items.getD (aT p) default) 1 [] = some (nm (Ykd Ls) atI (xI p) 1)
 rw [h1]; exact congrArg some h3
theorem Ysq {L : List YS} {z : YS} (h : z ∈ L) : ∃ k, k < L.length /\ L.getD k default = z := by
 obtain ⟨k, hk, e⟩ := List.mem_iff_getElem.1 h
 exact ⟨k, hk, by simp [hk, e]⟩
theorem Y1eq (hg : good Ls p) (h0 : p.kind = 0) (ha : 1 <= atI p.items) (hl : atI p.items < p.items.length) (hd : Yi1 p <= 40) : ∀ z ∈ p.items.take (aT p), good Ls z /\ Yi1 z <= 40 := by
 intro z hz
 have h := Yt6 ha hl
 have e := Ypl hg h0
 obtain ⟨k, hk, rfl⟩ := Ysq hz
 rw [List.length_take] at hk
 have e2 : (p.items.take (aT p)).getD k default = p.items.getD k default := by
  simp only [List.getD_eq_getElem?_getD, List.getElem?_take]; rw [if_pos (by omega)]
 rw [e2]
 have := Yl1 (t := p) (k := k) (by omega)
 exact ⟨Yo3 hg h0 (by omega) (by omega), by omega⟩
theorem Y1b0 (hg : good Ls p) (h0 : p.kind = 0) (ha : 1 <= atI p.items) (hl : atI p.items < p.items.length) (hd : Yi1 p <= 40) : ∀ z ∈ p.items.drop (aT p + 2), good Ls z /\ Yi1 z <= 40 := by
 intro z hz
 have h := Yt6 ha hl
 have e := Ypl hg h0
 obtain ⟨k, hk, rfl⟩ := Ysq hz
 rw [List.length_drop] at hk
 have e2 : (p.items.drop (aT p + 2)).getD k default = p.items.getD (aT p + 2 + k) default := by
  simp only [List.getD_eq_getElem?_getD, List.getElem?_drop]
 rw [e2]
 have := Yl1 (t := p) (k := aT p + 2 + k) (by omega)
 exact ⟨Yo3 hg h0 (by omega) (by omega), by omega⟩
theorem Y1cv (hg : good Ls p) (h0 : p.kind = 0) (ha : atI p.items < 0) (hd : Yi1 p <= 40) : ∀ z ∈ p.items, good Ls z /\ Yi1 z <= 40 := by
 intro z hz
 have e := Ypl hg h0
 obtain ⟨k, hk, rfl⟩ := Ysq hz
 have := Yl1 (t := p) (k := k) hk
 exact ⟨Yo3 hg h0 hk (by omega), by omega⟩
theorem Yu1 {α : Type} (c : α -> Nat) (L : List α) (i : Nat) : Yhb c (L.drop i) <= Yhb c L := by
 have e : Yhb c (L.take i ++ L.drop i) = Yhb c L := by rw [List.take_append_drop]
 rw [Ykq] at e; omega
theorem Y14h (ha : 1 <= atI p.items) (hl : atI p.items < p.items.length) : Yhb Yhk (p.items.take (aT p)) + Yhk (xI p) + Yhb Yhk (p.items.drop (aT p + 2)) + 1 <= Yhk p /\ Yhb wY (p.items.take (aT p)) <= wY p /\ wY (xI p) <= wY p /\ Yhb wY (p.items.drop (aT p + 2)) <= wY p /\ Yhb wY p.items <= wY p := by
 have h := Yt6 ha hl
 have g1 := Yi9 p
 have g2 := Yj6 p
 have g3 := Yiz wY p.items (aT p)
 have g4 := Yu1 wY p.items (aT p + 2)
 have g5 := Yi4 wY (Yhj (L := p.items) (k := aT p) (by omega))
 have g6 := Yxz Yhk (L := p.items) (k := aT p) (by omega)
 have g7 := Yxz Yhk (L := p.items) (k := aT p + 1) (by omega)
 have e : Yhb Yhk (p.items.take (aT p) ++ p.items.drop (aT p)) = Yhb Yhk p.items := by rw [List.take_append_drop]
 rw [Ykq] at e
 refine ⟨?_, by omega, ?_, by omega, by omega⟩
 ·show _ + Yhk (p.items.getD (aT p) default) + _ + 1 <= _
  rw [show aT p + 1 + 1 = aT p + 2 by omega] at g7; omega
 ·show wY (p.items.getD (aT p) default) <= _
  omega
def fI (p f : YS) : Bool := decide (p.kind = 0) && decide (f.kind = 0) && decide (1 <= atI p.items) && decide (atI p.items < p.items.length) && decide (0 <= (f.items.length : Int) - ((p.items.length : Int) - 2))
theorem Ymc (h : fI p f = true) : p.kind = 0 /\ f.kind = 0 /\ 1 <= atI p.items /\ atI p.items < p.items.length /\ 0 <= (f.items.length : Int) - ((p.items.length : Int) - 2) := by
 simp only [fI, Bool.and_eq_true, decide_eq_true_eq] at h; exact ⟨h.1.1.1.1, h.1.1.1.2, h.1.1.2, h.1.2, h.2⟩
theorem Y1l6 (h0 : p.kind = 0) (hf : f.kind = 0) (ha : 0 <= atI p.items) (hg : good Ls p) (hm : 0 <= (f.items.length : Int) - ((p.items.length : Int) - 2)) : fI p f = true := by
 have e := (Ypl hg h0).2
 simp only [fI, Bool.and_eq_true, decide_eq_true_eq]; omega
theorem Yqa (h : fI p f = true) : (aT p : Int) = atI p.items - 1 /\ aT p + 2 <= p.items.length /\ (mI2 p f : Int) = (f.items.length : Int) - ((p.items.length : Int) - 2) /\ aT p + mI2 p f <= f.items.length := by
 obtain ⟨_, _, ha, hl, hm⟩ := Ymc h
 have := Yt6 ha hl
 unfold mI2; omega
theorem Y1in (h : fI p f = true) (hg : good Ls p) : good Ls (xI p) /\ xI p ∈ p.items /\ Yi1 (xI p) + 1 <= Yi1 p /\ Yhk (xI p) <= Yhk p /\ wY (xI p) <= wY p := by
 obtain ⟨h0, _, ha, hl, _⟩ := Ymc h
 have h1 := Y17k hg h0 ha hl
 have h2 := Y14h ha hl
 have h3 := Yl1 (t := p) (k := aT p) (by have := Yt6 ha hl; omega)
 refine ⟨h1.1, h1.2, ?_, by omega, by omega⟩
 show Yi1 (p.items.getD (aT p) default) + 1 <= _
 omega
theorem Y1kf (h : fI p f = true) (hn : (alM (gI B Ls) (p.items.take (aT p)) (f.items.take (aT p))).isSome = false) : gI B Ls p f = none := by
 obtain ⟨h0, hf, ha, hl, hm⟩ := Ymc h
 exact Y1js h0 hf ha hl hm hn
theorem Y1fm (h : fI p f = true) {t : Nat} (ht : t <= mI2 p f) (hq : qI B Ls p f t = false) : gI B Ls p f = none := by
 obtain ⟨h0, hf, ha, hl, hm⟩ := Ymc h
 exact Y1e4 h0 hf ha hl hm ht hq
theorem Y1il (h : fI p f = true) (hn : (alM (gI B Ls) (p.items.take (aT p)) (f.items.take (aT p))).isSome = true) (hq : qI B Ls p f (mI2 p f) = true) :
  (gI B Ls p f).isSome = (alM (gI B Ls) (p.items.drop (aT p + 2)) (f.items.drop (aT p + mI2 p f))).isSome /\ smO p o (gI B Ls p f) = alO (alO o (alM (gI B Ls) (p.items.take (aT p)) (f.items.take (aT p))) ++ rp (nI Ls (xI p)) (rI B Ls p f (mI2 p f))) (alM (gI B Ls) (p.items.drop (aT p + 2)) (f.items.drop (aT p + mI2 p f))) := by
 obtain ⟨h0, hf, ha, hl, hm⟩ := Ymc h
 exact Y1ik h0 hf ha hl hm hn hq
theorem Y1je (h0 : p.kind = 0) (hf : f.kind = 0) (ha : 0 <= atI p.items) (hm : (f.items.length : Int) - ((p.items.length : Int) - 2) < 0) : gI B Ls p f = none := Y1j9 h0 hf ha hm
theorem Y1lt (hL : Ls.all Yk9 = true) (hg : good Ls p) (h : fI p f = true) : vrI Ls (xI p) 1 [] = some (nI Ls (xI p)) := by
 obtain ⟨h0, _, ha, hl, _⟩ := Ymc h
 exact Y1kr hL hg h0 ha hl
theorem Y1fu (h0 : p.kind = 0) (hf : f.kind = 0) (ha : atI p.items < 0) (hl : ¬ p.items.length = f.items.length) : gI B Ls p f = none := by rw [Y181 h0 hf ha, if_neg hl]
theorem Y1f5 {t : Nat} (h : (gI B Ls (xI p) (f.items.getD (aT p + t) default)).isSome = true) : (Ym0 B Ls p f t).length = (nI Ls (xI p)).length := by
 obtain ⟨c, hc⟩ := Option.isSome_iff_exists.1 h
 unfold Ym0; rw [hc]; exact Y1bb hc
theorem Y171 {t : Nat} (hq : qI B Ls p f t = true) (h : (gI B Ls (xI p) (f.items.getD (aT p + t) default)).isSome = true) : rI B Ls p f t ++ [Ym0 B Ls p f t] = rI B Ls p f (t + 1) /\ qI B Ls p f (t + 1) = true := by
 obtain ⟨c, hc⟩ := Option.isSome_iff_exists.1 h
 have e := Y1h7 hq hc
 have e2 : Ym0 B Ls p f t = c := by unfold Ym0; rw [hc]; rfl
 rw [e2]; exact ⟨e.1.symm, e.2⟩
theorem Y1hp (hk : p.kind = 1) (h : Yiv p = true) : gI B Ls p f = some [] /\ smO p o (gI B Ls p f) = o := by
 have e : gI B Ls p f = some [] := by unfold gI; rw [Yl8, if_pos hk, if_pos h]
 rw [e]; exact ⟨rfl, List.append_nil o⟩
theorem Y1jp (hk : p.kind = 1) (h : Yiv p = false) (h2 : Ykd Ls p = true) : (gI B Ls p f).isSome = (decide (f.kind = 1) && mng B p f) /\ smO p o (gI B Ls p f) = o := by
 have e : gI B Ls p f = if f.kind = 1 /\ mng B p f = true then some [] else none := by unfold gI; rw [Yl8, if_pos hk, if_neg (by simp [h]), if_pos h2]
 rw [e]
 by_cases hc : f.kind = 1 /\ mng B p f = true
 ·rw [if_pos hc]; exact ⟨by simp [hc.1, hc.2], List.append_nil o⟩
 ·rw [if_neg hc]
  refine ⟨?_, by unfold smO flM; simp only; rw [if_neg (by omega)]⟩
  cases h3 : decide (f.kind = 1) <;> cases h4 : mng B p f <;> simp_all
theorem Y1ko (hk : p.kind = 1) (h : Yiv p = false) (h2 : Ykd Ls p = false) : gI B Ls p f = some [Yqc p f] /\ smO p o (gI B Ls p f) = o ++ [Yqc p f] := by
 have e : gI B Ls p f = some [Yqc p f] := by unfold gI; rw [Yl8, if_pos hk, if_neg (by simp [h]), if_neg (by simp [h2])]
 rw [e]; exact ⟨rfl, rfl⟩
theorem Y159 (hk : ¬ p.kind = 1) (h0 : ¬ p.kind = 0) : (gI B Ls p f).isSome = (decide (f.kind = p.kind) && decide (f.number = p.number) && decide (f.text = p.text)) /\ smO p o (gI B Ls p f) = o := by
 have e : gI B Ls p f = if f.kind = p.kind /\ f.number = p.number /\ f.text = p.text then some [] else none := by unfold gI; rw [Yl8, if_neg hk, if_neg h0]
 rw [e]
 by_cases hc : f.kind = p.kind /\ f.number = p.number /\ f.text = p.text
 ·rw [if_pos hc]; exact ⟨by simp [hc.1, hc.2.1, hc.2.2], List.append_nil o⟩
 ·rw [if_neg hc]
  refine ⟨?_, by unfold smO flM; simp only; rw [if_neg h0]⟩
  symm; simp only [Option.isSome]; rw [Bool.eq_false_iff]; simp only [ne_eq, Bool.and_eq_true, decide_eq_true_eq]; rintro ⟨⟨a, b⟩, c⟩; exact hc ⟨a, b, c⟩
end
end Go.Proofs.YtpnaoendfpaodaaGreat
end
section
namespace Go.Proofs.YtpnaoendfpaodaaGreat
open Go Ab
theorem zw {p : Prop} (h : p := by first | with_reducible rfl | exact True.intro | omega | with_reducible assumption | with_reducible exact dT ‹_› | with_reducible exact dF ‹_› | ((first | refine Yki ?_ | refine Ylc ?_ rfl); (first | omega | (simp only [std]; omega) | grind))) : p := h
theorem Y12f {c : List YC} {u : Nat} (h : u < c.length) : ((c.take u).map Ypu ++ (c.drop u).map Yha)[u]? = some (Yhw (c.getD u default)) := by
 rw [<- Row.eq (C := Yha) (F := Yhw)]; exact Y1cw h
theorem Y12q {c : List YC} {u : Nat} (h : u < c.length) : ((c.take u).map Ypu ++ (c.drop u).map Yha).set u (Ypu (c.getD u default)) = (c.take (u + 1)).map Ypu ++ (c.drop (u + 1)).map Yha := Y1aj h
theorem Y186 {c : List YC} {u : Nat} (h : u < c.length) : u < (c.take u).length + (c.drop u).length := by
 rw [List.length_take, List.length_drop]; omega
theorem Y15a (L : List YC) (u : Nat) (x : YC) (y : List Cell) (h : Yhw x = y) : (L.map Yha).set u y = (L.set u x).map Yha := by
 subst h; rw [List.map_set, Row.eq (C := Yha) (F := Yhw)]
theorem Y1e2 {α : Type} (l : List α) (z v : α) : (l ++ [z]).set l.length v = l ++ [v] := by
 rw [List.set_append_right _ _ (Nat.le_refl _)]; simp
theorem Y1e6 (E : List YC) (z : List Cell) (x : YC) : (E.map Yha ++ [z]).set E.length (Yhw x) = (E ++ [x]).map Yha := by
 have := Y1e2 (E.map Yha) z (Yhw x)
 rw [List.length_map] at this
 rw [this]; exact Yhe (C := Yha) E x
theorem Y118 {V : List YC} {R : List (List YC)} {c : List YC} {u : Nat} (z : List Cell) (h : u < V.length) :
  ((Yjb V R c u).map Yha).set u [cI ((Yjb V R c u).getD u default).name.kind, cI ((Yjb V R c u).getD u default).name.number, cS ((Yjb V R c u).getD u default).name.text,
   Cell.list (List.map Yhd ((Yjb V R c u).getD u default).name.scopes), Cell.list (List.map Yh9 ((Yjb V R c u).getD u default).name.items), cI ((Yjb V R c u).getD u default).depth,
   cI ((Yjb V R c u).getD u default).form.kind, cI ((Yjb V R c u).getD u default).form.number, cS ((Yjb V R c u).getD u default).form.text,
   Cell.list (List.map Yhd ((Yjb V R c u).getD u default).form.scopes), Cell.list (List.map Yh9 ((Yjb V R c u).getD u default).form.items),
   Cell.list ((List.map Yha ((Yjb V R c u).getD u default).each ++ [z]).set ((Yjb V R c u).getD u default).each.length (Yhw (c.getD u default)))] = (Yjb V R c (u + 1)).map Yha := by
 rw [Y1e6]
 have e := Y15a (Yjb V R c u) u ⟨((Yjb V R c u).getD u default).name, ((Yjb V R c u).getD u default).depth, ((Yjb V R c u).getD u default).form, ((Yjb V R c u).getD u default).each ++ [c.getD u default]⟩ _ rfl
 refine Eq.trans e ?_
 rw [Y14j h, Y1do h]
theorem Y157 (H : YS -> Bool) (A : List YS -> Int) : ∀ (p : YS) (d : Int), ∀ y ∈ nm H A p d, y.each = [] := by
 intro p
 refine YS.ind (P := fun p => ∀ d, ∀ y ∈ nm H A p d, y.each = []) (fun p ih d y hy => ?_) p
 rw [Ymw] at hy
 split at hy
 ·split at hy
  ·cases hy
  ·rw [List.mem_singleton] at hy; subst hy; rfl
 ·split at hy
  ·have go : ∀ (l : List YS) (i a e : Int), (∀ x ∈ l, ∀ d, ∀ y ∈ nm H A x d, y.each = []) -> ∀ y ∈ nms H A l i a e, y.each = [] := by
    intro l
    induction l with
    | nil => intro i a e _ y hy; simp [nms] at hy
    | cons x r ihr =>
     intro i a e hl y hy
     rw [nms] at hy
     rcases List.mem_append.1 hy with hy | hy
     ·revert hy; repeat' split
      all_goals (intro hy; first | cases hy | exact hl x List.mem_cons_self _ y hy)
     ·exact ihr _ _ _ (fun z hz => hl z (List.mem_cons_of_mem _ hz)) y hy
   exact go p.items _ _ _ ih y hy
  ·cases hy
theorem Y14e {V : List YC} {R : List (List YC)} {c : List YC} {u : Nat} (hV : ∀ y ∈ V, y.each = []) (h : u < V.length) : ((Yjb V R c u).getD u default).each.length = R.length := by
 rw [Y14j h, Y150 h]
 simp only [List.length_append, List.length_map]
 rw [hV _ (Yhj h)]; simp
section
variable {B : List YB} {Ls : List YS} {p f : YS} {o : List YC} {s t u : Nat}
theorem Y1fy (h : (gS B Ls (p.items.getD s default) (f.items.getD (kS B Ls p f o s + t) default)).isSome = true) : (Ymx B Ls p f o s t).length = (nS Ls (p.items.getD s default)).length := by
 obtain ⟨c, hc⟩ := Option.isSome_iff_exists.1 h
 unfold Ymx; rw [hc]; exact Y1d6 hc
theorem Y1bo (hq : qS B Ls p f o s t = true) (h : ((gS B Ls (p.items.getD s default) (f.items.getD (kS B Ls p f o s + t) default)).isSome || decide (u = 0)) = true)
  (hc : (gS B Ls (p.items.getD s default) (f.items.getD (kS B Ls p f o s + t) default)).isSome = false ∨ (nS Ls (p.items.getD s default)).length <= u) :
  (Yjb (nS Ls (p.items.getD s default)) (rS B Ls p f o s t) (Ymx B Ls p f o s t) u).map Yha = (rp (nS Ls (p.items.getD s default)) (rS B Ls p f o s (t + 1))).map Yha := by
 cases hg : gS B Ls (p.items.getD s default) (f.items.getD (kS B Ls p f o s + t) default) with
 | none =>
  rw [hg] at h
  have hu : u = 0 := by simpa using h
  rw [hu, Yv4, (Yzm hq hg).1]
 | some c =>
  rw [hg] at hc
  have hu : (nS Ls (p.items.getD s default)).length <= u := by simpa using hc
  have e1 : Ymx B Ls p f o s t = c := by unfold Ymx; rw [hg]; rfl
  rw [Y154 hu, e1, (Y102 hq hg).1]
theorem Y1d5 (hu : u < (nS Ls (p.items.getD s default)).length) : ((Yjb (nS Ls (p.items.getD s default)) (rS B Ls p f o s t) (Ymx B Ls p f o s t) u).getD u default).each.length = (rS B Ls p f o s t).length :=
 Y14e (Y157 _ _ _ _) hu
end
section
variable {B : List YB} {Ls : List YS} {p f : YS} {o : List YC}
theorem Y1lu (ha : 0 <= aS p.items) (hm : 0 <= (f.items.length : Int) - ((p.items.length : Int) - 2)) : (mS p f : Int) = (f.items.length : Int) - ((p.items.length : Int) - 2) := by
 unfold mS Ymq; rw [if_pos ha]; omega
theorem Y1lp (ha : aS p.items < 0) : mS p f = 0 := by
 unfold mS Ymq; rw [if_neg (by omega)]; rfl
theorem Y1mb (hk : f.kind = 0) (ha : 0 <= aS p.items) (hm : 0 <= (f.items.length : Int) - ((p.items.length : Int) - 2)) : fS p f = true := by
 rw [Yvm]; unfold Ymq; rw [if_pos ha]; simp only [hk, ha, hm, decide_true, Bool.true_or, Bool.and_true]
theorem Y1me (hk : f.kind = 0) (ha : aS p.items < 0) (hm : f.items.length = p.items.length) : fS p f = true := by
 rw [Yvm]; unfold Ymq; rw [if_neg (by omega)]; simp [hk, hm]
theorem Y15r (h0 : p.kind = 0) (h : fS p f = false) : smO p o (gS B Ls p f) = [] /\ (gS B Ls p f).isSome = false := by
 rw [Y1jt h0 h]; exact ⟨Yow h0, rfl⟩
theorem Y1l5 (h0 : p.kind = 0) (hk : ¬ f.kind = 0) : smO p o (gS B Ls p f) = [] /\ (gS B Ls p f).isSome = false := by
 refine Y15r h0 ?_
 rw [Yvm]; simp [hk]
theorem Y1lx (h0 : p.kind = 0) (ha : 0 <= aS p.items) (hm : (f.items.length : Int) - ((p.items.length : Int) - 2) < 0) : smO p o (gS B Ls p f) = [] /\ (gS B Ls p f).isSome = false := by
 refine Y15r h0 ?_
 rw [Yvm]; unfold Ymq; rw [if_pos ha]
 have : ¬ 0 <= (f.items.length : Int) - ((p.items.length : Int) - 2) := by omega
 simp only [this, decide_false, Bool.and_false, Bool.false_and]
theorem Y1ky (h0 : p.kind = 0) (ha : aS p.items < 0) (hm : ¬ f.items.length = p.items.length) : smO p o (gS B Ls p f) = [] /\ (gS B Ls p f).isSome = false := by
 refine Y15r h0 ?_
 rw [Yvm]
 have : ¬ 0 <= aS p.items := by omega
 simp only [this, hm, decide_false, Bool.or_false, Bool.and_false]
theorem Y1l0 (h0 : p.kind = 0) (hf : fS p f = true) (hb : bS B Ls p f o p.items.length = true) : smO p o (gS B Ls p f) = oS B Ls p f o p.items.length /\ (gS B Ls p f).isSome = true := by
 have h := @Y1cp B Ls p f o h0 hf
 rw [if_pos hb] at h; exact ⟨h.2, h.1.trans hb⟩
theorem Y1lg (h0 : p.kind = 0) (hf : fS p f = true) (hb : bS B Ls p f o p.items.length = false) : smO p o (gS B Ls p f) = [] /\ (gS B Ls p f).isSome = false := by
 have h := @Y1cp B Ls p f o h0 hf
 rw [if_neg (by rw [hb]; simp)] at h; exact ⟨h.2, h.1.trans hb⟩
end
section
variable {B : List YB} {Ls : List YS} {p f : YS} {t u : Nat}
theorem Y1bz (hq : qI B Ls p f t = true) (h : (gI B Ls (xI p) (f.items.getD (aT p + t) default)).isSome = true) (hc : (nI Ls (xI p)).length <= u) :
  (Yjb (nI Ls (xI p)) (rI B Ls p f t) (Ym0 B Ls p f t) u).map Yha = (rp (nI Ls (xI p)) (rI B Ls p f (t + 1))).map Yha := by
 rw [Y154 hc, (Y171 hq h).1]
theorem Y1b5 (hu : u < (nI Ls (xI p)).length) : ((Yjb (nI Ls (xI p)) (rI B Ls p f t) (Ym0 B Ls p f t) u).getD u default).each.length = (rI B Ls p f t).length :=
 Y14e (Y157 _ _ _ _) hu
end
def atB (p : YS) (s : Nat) : Bool := decide (s < p.items.length) && decide ((s : Int) + 1 = aS p.items)
theorem Ys7 {p : YS} {s : Nat} (h : atB p s = true) : s < p.items.length /\ (s : Int) + 1 = aS p.items := by
 simpa [atB] using h
theorem Y1jn {p : YS} {s : Nat} (h : s < p.items.length) (h2 : (s : Int) + 1 = aS p.items) : atB p s = true := by
 simp [atB, h, h2]
theorem Y15t (Ls : List YS) (x : YS) : (vrS Ls x 0 []).getD [] = eV Ls x := rfl
theorem Yxg (l : List YS) : (if okS l = true then atS l else (-1 : Int)) = aS l := rfl
theorem Y1ep (H : YS -> Bool) (A : List YS -> Int) : ∀ (p : YS) (d : Int), ∀ y ∈ nm H A p d, d <= y.depth /\ y.depth <= d + Yi1 p := by
 intro p
 refine YS.ind (P := fun p => ∀ d, ∀ y ∈ nm H A p d, d <= y.depth /\ y.depth <= d + Yi1 p) (fun p ih d y hy => ?_) p
 rw [Ymw] at hy
 split at hy
 ·split at hy
  ·cases hy
  ·rw [List.mem_singleton] at hy; subst hy
   have : (Yoc p d).depth = d := rfl
   omega
 ·split at hy
  ·have go : ∀ (l : List YS) (i a e : Int) (n : Nat), (∀ x ∈ l, Yi1 x + 1 <= n /\ ∀ d, ∀ y ∈ nm H A x d, d <= y.depth /\ y.depth <= d + Yi1 x) -> ∀ y ∈ nms H A l i a e, e <= y.depth /\ y.depth <= e + n := by
    intro l
    induction l with
    | nil => intro i a e n _ y hy; simp [nms] at hy
    | cons x r ihr =>
     intro i a e n hl y hy
     rw [nms] at hy
     have hx := hl x List.mem_cons_self
     rcases List.mem_append.1 hy with hy | hy
     ·revert hy; repeat' split
      all_goals (intro hy; first | cases hy | (have := hx.2 _ y hy; omega))
     ·exact ihr _ _ _ n (fun z hz => hl z (List.mem_cons_of_mem _ hz)) y hy
   refine go p.items _ _ _ _ (fun x hx => ⟨?_, ih x hx⟩) y hy
   obtain ⟨k, hk, e⟩ := Ysq hx
   rw [<- e]; exact Yl1 hk
  ·cases hy
section
variable {B : List YB} {Ls : List YS} {p f : YS} {o : List YC} {s t u k1 : Nat}
theorem Yp2 {x : YS} (h : s < x.items.length) : wY (x.items.getD s default) <= wY x /\ Yhk (x.items.getD s default) <= Yhk x /\ Yi1 (x.items.getD s default) <= Yi1 x /\ x.items.length <= wY x /\ x.items.getD s default ∈ x.items := by
 have h1 := Yl0 h
 have h2 := Yl1 h
 have h3 := Yj6 x
 exact ⟨h1.2, by omega, by omega, by omega, Yhj h⟩
theorem Y1a7 (x : YS) : x.items.length <= wY x := by have := Yj6 x; omega
theorem Y1f3 (hg : good Ls p) (h0 : p.kind = 0) (h : atB p s = true) : good Ls (p.items.getD s default) := by
 have h := Ys7 h
 have h1 := Ysp hg h0 h.1 h.2
 exact ⟨Yl3 hg.1 _ (Yhj h.1), 0, [], _, Int.le_refl _, h1.1⟩
theorem Y1g9 (hg : good Ls p) (h0 : p.kind = 0) (h : atB p s = true) : eV Ls (p.items.getD s default) = nm (Yii Ls) aS (p.items.getD s default) 0 := by
 have h := Ys7 h
 unfold eV; rw [(Ysp hg h0 h.1 h.2).1]; rfl
theorem Y1i0 (hg : good Ls p) (h0 : p.kind = 0) (h : atB p s = true) : (eV Ls (p.items.getD s default)).length <= Yhk p := by
 have h1 := Ys7 h
 rw [Y1g9 hg h0 h]
 have h2 := Ys4 (Yii Ls) aS (p.items.getD s default) 0
 have h3 := Yp2 h1.1
 omega
theorem Y1fk (hg : good Ls p) (h0 : p.kind = 0) (h : atB p s = true) (hd : Yi1 p <= 40) (hu : u < (eV Ls (p.items.getD s default)).length) : 0 <= ((Yin (eV Ls (p.items.getD s default)) u).getD u default).depth /\ ((Yin (eV Ls (p.items.getD s default)) u).getD u default).depth <= 40 := by
 have h1 := Ys7 h
 have h3 := Yp2 h1.1
 rw [Y14n hu]
 have hm := Yhj hu
 rw [Y1g9 hg h0 h] at hm ⊢
 have := Y1ep (Yii Ls) aS (p.items.getD s default) 0 _ hm
 omega
theorem Y1gr {V : List YC} (h : u < V.length) :
  ((Yin V u).map Yha).set u [cI ((Yin V u).getD u default).name.kind, cI ((Yin V u).getD u default).name.number, cS ((Yin V u).getD u default).name.text,
   Cell.list (List.map Yhd ((Yin V u).getD u default).name.scopes), Cell.list (List.map Yh9 ((Yin V u).getD u default).name.items), cI (((Yin V u).getD u default).depth + 1),
   cI ((Yin V u).getD u default).form.kind, cI ((Yin V u).getD u default).form.number, cS ((Yin V u).getD u default).form.text,
   Cell.list (List.map Yhd ((Yin V u).getD u default).form.scopes), Cell.list (List.map Yh9 ((Yin V u).getD u default).form.items),
   Cell.list (List.map Yha ((Yin V u).getD u default).each)] = (Yin V (u + 1)).map Yha := by
 have e := Y15a (Yin V u) u (upC ((Yin V u).getD u default)) _ rfl
 refine Eq.trans e ?_
 rw [Y14n h, Y1cu h]
theorem Y1kj (hg : good Ls p) (h0 : p.kind = 0) (h : atB p s = true) (hu : (eV Ls (p.items.getD s default)).length <= u) : (Yin (eV Ls (p.items.getD s default)) u).map Yha = (nS Ls (p.items.getD s default)).map Yha := by
 have h1 := Ys7 h
 rw [Y1fq hu, (Y1ln hg h0 h1.1 h1.2).1]
theorem Y1f4 : (smO (p.items.getD s default) [] (gS B Ls (p.items.getD s default) (f.items.getD (kS B Ls p f o s + t) default))).map Yha = ((Ymx B Ls p f o s t).take 0).map Ypu ++ (Ymx B Ls p f o s t).map Yha := by
 rw [Yvu]; rfl
theorem Y1jk (hq : qS B Ls p f o s t = true) : (gS B Ls (p.items.getD s default) (f.items.getD (kS B Ls p f o s + t) default)).isSome = qS B Ls p f o s (t + 1) := by
 cases e : gS B Ls (p.items.getD s default) (f.items.getD (kS B Ls p f o s + t) default) with
 | none => rw [(Yzm hq e).2]; rfl
 | some c => rw [(Y102 hq e).2]; rfl
theorem Y1ma (hq : qS B Ls p f o s t = true) : (qS B Ls p f o s (t + 1) || decide (t + 1 = (rS B Ls p f o s (t + 1)).length + 1)) = true := by
 cases e : gS B Ls (p.items.getD s default) (f.items.getD (kS B Ls p f o s + t) default) with
 | none => rw [(Yzm hq e).1, Y1bp hq]; simp
 | some c => rw [(Y102 hq e).2]; rfl
end
section
variable {B : List YB} {Ls : List YS} {p f : YS}
theorem Y13k (h : ¬ p.text.data.toList = [95]) : Yiv p = false := decide_eq_false h
theorem Y1hq (hk : p.kind = 1) (hu : ¬ p.text.data.toList = [95]) (hl : Yii Ls p = true) (hf : f.kind = 1) : mng B p f = (gS B Ls p f).isSome := by
 rw [(Y156 (o := []) hk (Y13k hu) hl).1]; simp [hf]
theorem Y1h8 (hk : p.kind = 1) (hu : ¬ p.text.data.toList = [95]) (hl : Yii Ls p = true) (hf : ¬ f.kind = 1) : false = (gS B Ls p f).isSome := by
 rw [(Y156 (o := []) hk (Y13k hu) hl).1]; simp [hf]
theorem Y1k6 (hk : p.kind = 1) (hu : ¬ p.text.data.toList = [95]) (hl : Yii Ls p = false) : true = (gS B Ls p f).isSome := by
 rw [(Y1ds (o := []) hk (Y13k hu) hl).1]; rfl
theorem Y18w {a b : ByteArray} : b = a ↔ a.data.toList = b.data.toList :=
 ⟨fun h => by rw [h], fun h => by cases a; cases b; congr 1; exact (Array.toList_inj.1 h).symm⟩
theorem Y1l1 (h1 : ¬ p.kind = 1) (h0 : ¬ p.kind = 0) (hk : p.kind = f.kind) (hn : p.number = f.number) : decide (p.text.data.toList = f.text.data.toList) = (gS B Ls p f).isSome := by
 rw [(Ytd (o := []) h1 h0).1]; simp [hk, hn, Y18w]
theorem Y1kq (h1 : ¬ p.kind = 1) (h0 : ¬ p.kind = 0) (hk : p.kind = f.kind) (hn : ¬ p.number = f.number) : false = (gS B Ls p f).isSome := by
 rw [(Ytd (o := []) h1 h0).1]; simp [hk.symm, show ¬ f.number = p.number from fun h => hn h.symm]
theorem Y1lo (h1 : ¬ p.kind = 1) (h0 : ¬ p.kind = 0) (hk : ¬ p.kind = f.kind) : false = (gS B Ls p f).isSome := by
 rw [(Ytd (o := []) h1 h0).1]; simp [show ¬ f.kind = p.kind from fun h => hk h.symm]
end
section
variable {B : List YB} {Ls : List YS} {p f : YS} {o : List YC} {k : Nat}
theorem Y19u {b : Bool} (h : (!b) = false) : b = true := by simpa using h
theorem Y1g3 {b : Bool} (h : (!b) = true) : b = false := by simpa using h
theorem Y1bu (p : YS) : p.items.getD (atI p.items - 1).toNat default = xI p := rfl
theorem Y16v (h : fI p f = true) : (List.take (atI p.items - 1).toNat p.items).length = aT p := by
 have := Yqa h
 have e : (atI p.items - 1).toNat = aT p := rfl
 rw [e, List.length_take]; omega
theorem Y1fa (h : fI p f = true) : (atI p.items + 1).toNat = aT p + 2 := by
 have := Yqa h; omega
theorem Ypv {α : Type} (L : List α) (n : Nat) : List.take (L.length - n) (List.drop n L) = List.drop n L := by
 apply List.take_of_length_le; rw [List.length_drop]; exact Nat.le_refl _
theorem Y1fs (h : fI p f = true) : ((List.take (p.items.length - (atI p.items + 1).toNat) (List.drop (atI p.items + 1).toNat p.items)).length : Int) = p.items.length - (aT p + 2) := by
 have := Yqa h
 rw [Ypv, List.length_drop]; omega
theorem Y1ap (h : fI p f = true) (hk : k < mI2 p f) (hq : qI B Ls p f k = true) (hn : (gI B Ls (xI p) (f.items.getD (aT p + k) default)).isSome = false) : (gI B Ls p f).isSome = false := by
 cases e : gI B Ls (xI p) (f.items.getD (aT p + k) default) with
 | none => rw [Y1fm h hk (Y1i8 hq e)]; rfl
 | some c => rw [e] at hn; cases hn
theorem Y1d3 : (smO (xI p) [] (gI B Ls (xI p) (f.items.getD (aT p + k) default))).map Yha = ((Ym0 B Ls p f k).take 0).map Ypu ++ (Ym0 B Ls p f k).map Yha := by
 rw [Yvu]; rfl
theorem Y1kn (h : k = mI2 p f) : (rp (nI Ls (xI p)) (rI B Ls p f k)).map Yha = (rp (nI Ls (xI p)) (rI B Ls p f (mI2 p f))).map Yha := by rw [h]
theorem Y1jw (h : k = mI2 p f) (hq : qI B Ls p f k = true) : qI B Ls p f (mI2 p f) = true := by rw [<- h]; exact hq
end
section
variable {B : List YB} {Ls : List YS} {p f : YS} {o : List YC}
theorem Y1hb (p : YS) : p.items.getD (aT p) default = xI p := rfl
theorem Y1iu (p : YS) : (atI p.items - 1).toNat = aT p := rfl
theorem Y1d2 (hg : good Ls p) (h0 : p.kind = 0) (ha : ¬ atI p.items < 0) : ((f.items.length : Int) - ((List.take (atI p.items - 1).toNat p.items).length : Nat) - ((List.take (p.items.length - (atI p.items + 1).toNat) (List.drop (atI p.items + 1).toNat p.items)).length : Nat)) = (f.items.length : Int) - ((p.items.length : Int) - 2) := by
 have h := (Ypl hg h0).2
 rw [Ypv, List.length_drop, List.length_take]; omega
theorem Y1m0 (hg : good Ls p) (h0 : ¬¬p.kind = 0) (hf : ¬¬f.kind = 0) (ha : ¬ atI p.items < 0) (hc : ¬ ((f.items.length : Int) - ((List.take (atI p.items - 1).toNat p.items).length : Nat) - ((List.take (p.items.length - (atI p.items + 1).toNat) (List.drop (atI p.items + 1).toNat p.items)).length : Nat)) < 0) : fI p f = true := by
 have h0 := Decidable.not_not.1 h0
 have := Y1d2 (f := f) hg h0 ha
 exact Y1l6 h0 (Decidable.not_not.1 hf) (by omega) hg (by omega)
theorem Y1co (hg : good Ls p) (h0 : ¬¬p.kind = 0) (hf : ¬¬f.kind = 0) (ha : ¬ atI p.items < 0) (hc : ((f.items.length : Int) - ((List.take (atI p.items - 1).toNat p.items).length : Nat) - ((List.take (p.items.length - (atI p.items + 1).toNat) (List.drop (atI p.items + 1).toNat p.items)).length : Nat)) < 0) : [] = (smO p o (gI B Ls p f)).map Yha /\ false = (gI B Ls p f).isSome := by
 have h0 := Decidable.not_not.1 h0
 have := Y1d2 (f := f) hg h0 ha
 rw [Y1je h0 (Decidable.not_not.1 hf) (by omega) (by omega), Yow h0]; exact ⟨rfl, rfl⟩
theorem Y18i (h0 : ¬¬p.kind = 0) (hf : ¬f.kind = 0) : [] = (smO p o (gI B Ls p f)).map Yha /\ false = (gI B Ls p f).isSome := by
 have h0 := Decidable.not_not.1 h0
 rw [Y1h0 h0 hf, Yow h0]; exact ⟨rfl, rfl⟩
theorem Y18j (h0 : ¬¬p.kind = 0) (hf : ¬¬f.kind = 0) (ha : atI p.items < 0) (hl : ¬ (p.items.length : Int) = (f.items.length : Int)) : [] = (smO p o (gI B Ls p f)).map Yha /\ false = (gI B Ls p f).isSome := by
 have h0 := Decidable.not_not.1 h0
 rw [Y1fu h0 (Decidable.not_not.1 hf) ha (by omega), Yow h0]; exact ⟨rfl, rfl⟩
theorem Y1c3 (hf : fI p f = true) (h : (!(alM (gI B Ls) (List.take (aT p) p.items) (List.take (aT p) f.items)).isSome) = true) : [] = (smO p o (gI B Ls p f)).map Yha /\ false = (gI B Ls p f).isSome := by
 rw [Y1kf hf (Y1g3 h), Yow (Ymc hf).1]; exact ⟨rfl, rfl⟩
theorem Y17q (h0 : ¬¬p.kind = 0) (h : (gI B Ls p f).isSome = false) : [] = (smO p o (gI B Ls p f)).map Yha /\ false = (gI B Ls p f).isSome := by
 have h0 := Decidable.not_not.1 h0
 cases e : gI B Ls p f with
 | none => rw [Yow h0]; exact ⟨rfl, rfl⟩
 | some c => rw [e] at h; cases h
theorem Y1dw (hf : fI p f = true) (h : (!(alM (gI B Ls) (List.take (aT p) p.items) (List.take (aT p) f.items)).isSome) = false) (hq : qI B Ls p f (mI2 p f) = true) :
  (alO (alO o (alM (gI B Ls) (List.take (aT p) p.items) (List.take (aT p) f.items)) ++ rp (nI Ls (xI p)) (rI B Ls p f (mI2 p f))) (alM (gI B Ls) (List.drop (aT p + 2) p.items) (List.drop (aT p + mI2 p f) f.items))).map Yha = (smO p o (gI B Ls p f)).map Yha /\
  (alM (gI B Ls) (List.drop (aT p + 2) p.items) (List.drop (aT p + mI2 p f) f.items)).isSome = (gI B Ls p f).isSome := by
 have h1 := @Y1il B Ls p f o hf (Y19u h) hq
 rw [h1.2]; exact ⟨rfl, h1.1.symm⟩
theorem Y1er (hl : Ls.all Yk9 = true) (hg : good Ls p) (hf : fI p f = true) : ((vrI Ls (xI p) 1 []).getD []).map Yha = (rp (nI Ls (xI p)) (rI B Ls p f 0)).map Yha := by
 rw [Y1lt hl hg hf]
 have e : rI B Ls p f 0 = [] := rfl
 rw [e, Y1b6]; rfl
theorem Y1e7 (hf : fI p f = true) : (List.take (aT p) p.items).length = aT p := Y16v hf
theorem Y1k8 (hf : fI p f = true) : ((f.items.length : Int) - (aT p : Nat) - ((List.drop (aT p + 2) p.items).length : Nat)) = (mI2 p f : Nat) := by
 have := Yqa hf
 rw [List.length_drop]; omega
theorem Y1h6 (a b : Nat) : ((a : Int) + (b : Int)).toNat = a + b := by omega
theorem Y1iq (f : YS) (n : Nat) : Yhb wY (List.take n f.items) <= wY f /\ Yhb wY (List.drop n f.items) <= wY f := by
 have h1 := Yiz wY f.items n
 have h2 := Yu1 wY f.items n
 have h3 := Yj6 f
 omega
theorem Y1lz (h1 : ¬p.kind = 1) (h0 : ¬p.kind = 0) (hk : f.kind = p.kind) (hn : f.number = p.number) : decide (f.text.data.toList = p.text.data.toList) = (gI B Ls p f).isSome := by
 rw [(Y159 (o := []) h1 h0).1]
 have : (f.text = p.text) ↔ f.text.data.toList = p.text.data.toList := by rw [Y18w]; exact eq_comm
 simp [hk, hn, this]
end
end Go.Proofs.YtpnaoendfpaodaaGreat
end
