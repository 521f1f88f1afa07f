/- Part 2 of a proof. No condition. -/
import Derived.Test.YtpnaoendfpaodaaGreatExS1
set_option linter.unusedVariables false
set_option linter.unusedSimpArgs false
section
namespace Go.Proofs.YtpnaoendfpaodaaGreat
open Go Ab
set_option maxHeartbeats 4000000
def Y1ee (k : Int) : Int := if k = 1 then 11 else if k = 2 then 13 else if k = 3 then 99999 else if k = 4 then 99999 else -1
def Ynt (b : YB) : Bool := Ym4 b.text && Ykf b.scopes && decide (0 <= b.number /\ b.number <= Y1ee b.kind)
abbrev Za3 (b : YB) : Ct := ⟨178, [], [Ym7 b], [], .sv (lb (Ynt b))⟩
theorem Z9o (b : YB)  : Za3 b := Yhv Tryz.call178 Tryz.func178 (.i (b.kind = 1) (.c [] Zcq (.h (12 <= 9223372036854775807) (.r 11 (.c [.rd] (Z1y
 b.text) (.b (Ym4 b.text) (.c [.rd] (Z3o b.scopes) (.b (Ykf b.scopes) (.c [.rd, .rd, .rd] (Z1k b.number 0 11) (.s (lb (decide (0 <= b.number /\ b.number <= 11))))) (.s (lb
 false)))) (.y false (.s (lb false)))))))) (.i (b.kind = 2) (.c [] Z99 (.h (14 <= 9223372036854775807) (.r 13 (.c [.rd] (Z1y b.text) (.b (Ym4 b.text) (.c
 [.rd] (Z3o b.scopes) (.b (Ykf b.scopes) (.c [.rd, .rd, .rd] (Z1k b.number 0 13) (.s (lb (decide (0 <= b.number /\ b.number <= 13))))) (.s (lb false)))) (.y false (.s (lb
 false)))))))) (.i (b.kind = 3) (.y true (.c [.rd] (Z1y b.text) (.b (Ym4 b.text) (.c [.rd] (Z3o b.scopes) (.b (Ykf b.scopes) (.c [.rd, .rd, .rd] (Z1k b.number 0
 99999) (.s (lb (decide (0 <= b.number /\ b.number <= 99999))))) (.s (lb false)))) (.y false (.s (lb false)))))) (.i (b.kind = 4) (.c [.rd] (Z1y b.text) (.b (Ym4 b.text) (.c
 [.rd] (Z3o b.scopes) (.b (Ykf b.scopes) (.c [.rd, .rd, .rd] (Z1k b.number 0 99999) (.s (lb (decide (0 <= b.number /\ b.number <= 99999))))) (.s (lb false)))) (.y false (.s
 (lb false))))) (.c [.rd] (Z1y b.text) (.b (Ym4 b.text) (.c [.rd] (Z3o b.scopes) (.b (Ykf b.scopes) (.c [.rd, .rd, .rd] (Z1k b.number 0 (-1 : Int)) (.s (lb
 (decide (0 <= b.number /\ b.number <= (-1 : Int)))))) (.s (lb false)))) (.y false (.s (lb false))))))))) (by
 dsimp only [Yhj, Za3]
 have e1 : Yr9.length = 12 := rfl
 have e2 : Yre.length = 14 := rfl
 with_reducible repeat' (first | apply And.intro | exact zR | (intro) | apply mIc | apply mOc | apply mSc | apply mLc)
 all_goals ((try simp only [std, inj] at *); with_reducible and_intros)
 all_goals try first | exact z | exact zM | grind [Ynt, Y1ee, Yhl, Yhm, Yhi])
abbrev Za4 (b : YB) : Ct := ⟨186, [], [Ym7 b], [], .sv (lb (Ynt b))⟩
theorem Zgr (b : YB)  : Za4 b := Yhv Tryz.call186 Tryz.func186 (.c [.rd] (Z4i b.text) (.b (!Ym4 b.text) (.y true (.y true (.s (lb false)))) (.c [.rd]
 (Z1n b.scopes) (.b (!Ykf b.scopes) (.y true (.s (lb false))) (.i (b.number < 0) (.s (lb false)) (.i (b.kind = 1) (.w (.draw []) (.c [] Zcr (.h (12 <=
 9223372036854775807) (.s (lb (decide (b.number < 12))))))) (.i (b.kind = 2) (.w (.draw []) (.c [] Z9a (.h (14 <= 9223372036854775807) (.s (lb (decide (b.number <
 14))))))) (.i (b.kind = 3) (.y true (.s (lb (decide (b.number <= 99999))))) (.i (b.kind = 4) (.s (lb (decide (b.number <= 99999)))) (.s (lb false))))))))))) (by
 dsimp only [Yhj, Za4]
 have e1 : Yr9.length = 12 := rfl
 have e2 : Yre.length = 14 := rfl
 with_reducible repeat' (first | apply And.intro | exact zR | (intro) | apply mIc | apply mOc | apply mSc | apply mLc | apply Z4i | apply Z1n)
 all_goals ((try simp only [std, inj] at *); with_reducible and_intros)
 all_goals try with_reducible first | apply Z4i | apply Z1n
 all_goals try first | exact z | exact zM | grind [Ynt, Y1ee, Yhl, Yhm, Yhi])
def clB (t : ByteArray) (s : List Int) (x : YB) : Bool := decide (x.text = t) && decide (x.scopes = s)
def Ymy (L : List YB) (t : ByteArray) (s : List Int) : Bool := L.any (clB t s)
abbrev Z7n (L : List YB) (b : YB) : Ct := ⟨179, [], [ll (L.map Yhg), Ym7 b], [], .sv (lb (Ymy L b.text b.scopes))⟩
def Z4m (L : List YB) (b : YB) : Lp Nat := .mk 26 0 (fun x => [(3, .one (.ptr 0 0)), (7, ll (L.map Yhg)), (8, li (↑(L.map Yhg).length :
 Int)), (9, hs x 0)]) (fun x => [.box (vals (Yhy b))]) (fun k => [.s (li (k : Int))]) (fun k => k <= L.length /\ L.length <= 9223372036854775807 /\ Ymy (L.take k) b.text
 b.scopes = false) (fun k => L.length - k) [.mk (Ymy L b.text b.scopes = false) (.exit 0) (fun x => []) (fun x => []) [], .mk (Ymy L b.text b.scopes = true) .ret (fun x => [(4,
 hs x 0)]) (fun x => []) [.s (lb true)]]
theorem Zdm (L : List YB) (b : YB) : Lp.Sem Tryz.prog (Yht Tryz.f179 0) (Z4m L b) := Yi3 (fun k => .i ((k : Int) < (↑(L.map Yhg).length :
 Int)) (.x (k : Int) (L.map Yhg) (Yhy (L.getD k default)) (.i ((L.getD k default).text.data.toList = b.text.data.toList) (.c [.rd, .rd] (Z9h (L.getD k
 default).scopes b.scopes) (.i ((L.getD k default).scopes = b.scopes) (.o 1 [] [.s (lb true)]) (.r ((k : Int) + 1) (.g [0] (k + 1) [.s (li ((k : Int) + 1))])))) (.y false (.r
 ((k : Int) + 1) (.g [0] (k + 1) [.s (li ((k : Int) + 1))]))))) (.o 0 [] [])) (by
 intro k h; try dsimp only [Yhj, Yhq, Z4m] at h ⊢
 with_reducible repeat' (first | apply And.intro | exact zR | (intro) | apply mIc | apply mOc | apply mSc | apply mLc)
 all_goals ((try simp only [std, inj] at *); with_reducible and_intros)
 all_goals try first | exact z | exact zM | grind [Yi2, Ymy, clB, Yhn, Ykk, Yhl, Yhm, Yhi])
theorem Zcs (L : List YB) (b : YB)  : Z7n L b := Yhv Tryz.call179 Tryz.func179 (.z Yhg L (.l (Z4m L b) (Zdm L b) [0] [.s (li 0)] 0 (.t (.s
 (lb false)) (.t (.s (lb true)) .q)))) (by
 dsimp only [Yhj, Z7n, Yhq, Z4m]
 with_reducible repeat' (first | apply And.intro | exact zR | (intro) | apply mIc | apply mOc | apply mSc | apply mLc)
 all_goals ((try simp only [std, inj] at *); with_reducible and_intros)
 all_goals try first | exact z | exact zM | grind [Ymy, Yhl, Yhm, Yhi])
def Ykj (L : List YB) : Nat -> Bool
 | 0 => true
 | k + 1 => Ykj L k && (Ynt (L.getD k default) && !Ymy (L.take k) (L.getD k default).text (L.getD k default).scopes)
theorem Yqx (L : List YB) : ∀ (m k : Nat), k <= m -> Ykj L m = true -> Ykj L k = true
 | 0, k, h, _ => by
  obtain rfl : k = 0 := by omega
  rfl
 | m + 1, k, h, ht => by
  by_cases e : k = m + 1
  ·rw [e]; exact ht
  ·refine Yqx L m k (by omega) ?_
   simp only [Ykj, Bool.and_eq_true] at ht; exact ht.1
def Yrz (L : List YB) : Bool := Ykj L L.length && decide ((L.length : Int) <= 1000)
abbrev Zct (L : List YB) : Ct := ⟨104, [], [ll (L.map Yhg)], [], .sv (lb (Yrz L))⟩
def Z6j (L : List YB) : Lp Nat := .mk 26 0 (fun x => [(0, ll (L.map Yhg)), (5, ll (L.map Yhg)), (6, li (↑(L.map Yhg).length : Int)), (7, hs
 x 0)]) (fun x => []) (fun k => [.s (li (k : Int))]) (fun k => k <= L.length /\ L.length <= 9223372036854775807 /\ Ykj L k = true) (fun k => L.length - k) [.mk (Ykj L L.length =
 true) (.exit 0) (fun x => [(0, ll (L.map Yhg))]) (fun x => []) [], .mk (Ykj L L.length = false) .ret (fun x => [(2, hs x 0)]) (fun x => []) [.s (lb false)]]
theorem Zft (L : List YB) : Lp.Sem Tryz.prog (Yht Tryz.f104 0) (Z6j L) := Yi3 (fun k => .i ((k : Int) < (↑(L.map Yhg).length : Int)) (.x (k : Int)
 (L.map Yhg) (Yhy (L.getD k default)) (.w (.draw []) (.c [.rd] (Z9o (L.getD k default)) (.b (!Ynt (L.getD k default)) (.y true (.o 1 [] [.s (lb false)])) (.p
 (0 <= (k : Int)) (.p (0 <= (k : Int).toNat /\ (k : Int).toNat <= (L.map Yhg).length /\ ∀ (e : List Cell), e ∈ L.map Yhg -> e.length = 4) (.u [.rd, .rd]
 (Z7n (List.take ((k : Int).toNat - 0) (L.drop 0)) (L.getD k default)) (.p (Yl3 Tryz.prog 179 [] [ll (List.take ((k : Int).toNat - 0) (List.drop 0 (List.map
 Yhg L))), SV.agg (vals (Yhy (L.getD k default)))] [] (AV.sv (lb (Ymy (List.take ((k : Int).toNat - 0) (L.drop 0)) (L.getD k default).text (L.getD k
 default).scopes)))) (.b (Ymy (List.take ((k : Int).toNat - 0) (L.drop 0)) (L.getD k default).text (L.getD k default).scopes) (.o 1 [] [.s (lb false)]) (.r ((k : Int) + 1)
 (.g [] (k + 1) [.s (li ((k : Int) + 1))]))))))))))) (.o 0 [] [])) (by
 intro k h; try dsimp only [Yhj, Yhq, Z6j] at h ⊢
 have g1 := Yqx L L.length (k + 1)
 have g2 : Ykj L (k + 1) = (Ykj L k && (Ynt (L.getD k default) && !Ymy (L.take k) (L.getD k default).text (L.getD k default).scopes)) := rfl
 with_reducible repeat' (first | apply And.intro | exact zR | (intro) | apply mIc | apply mOc | apply mSc | apply mLc | apply Z9o | apply Zcs)
 all_goals ((try simp only [std, inj] at *); with_reducible and_intros)
 all_goals try with_reducible first | apply Z9o | apply Zcs
 all_goals try first | exact z | exact zM | grind [Yhn, Yhl, Yhm, Yhi])
theorem Zha (L : List YB)  : Zct L := Yhv Tryz.call104 Tryz.func104 (.z Yhg L (.l (Z6j L) (Zft L) [] [.s (li 0)] 0 (.t (.z Yhg L (.s (lb (decide
 ((↑(L.map Yhg).length : Int) <= 1000))))) (.t (.s (lb false)) .q)))) (by
 dsimp only [Yhj, Zct, Yhq, Z6j]
 with_reducible repeat' (first | apply And.intro | exact zR | (intro) | apply mIc | apply mOc | apply mSc | apply mLc)
 all_goals ((try simp only [std, inj] at *); with_reducible and_intros)
 all_goals try first | exact z | exact zM | grind [Yrz, Ykj, Yhl, Yhm, Yhi])
def plc (L : List YB) : Nat -> ByteArray -> List Int
 | 0, _ => []
 | k + 1, s => if s = (L.getD k default).text then plc L k s ++ [(k : Int)] else plc L k s
theorem Y1hn {L : List YB} {k : Nat} : Ypx (plc L k) (L.getD k default).text (plc L k (L.getD k default).text ++ [(k : Int)]) = plc L (k + 1) := by
 funext s; simp only [Ypx, plc]; split
 ·rename_i h; rw [h]
 ·rfl
theorem Y1ez {L : List YB} : zL = plc L 0 := rfl
theorem Y18k (L : List YB) (s : ByteArray) : ∀ k, (plc L k s).length <= k
 | 0 => Nat.le_refl _
 | k + 1 => by
  have := Y18k L s k
  simp only [plc]; split
  ·simp; omega
  ·omega
theorem Yvh (L : List YB) (s : ByteArray) : ∀ k (i : Int), i ∈ plc L k s ↔ (0 <= i /\ i < k /\ (L.getD i.toNat default).text = s)
 | 0, i => by simp [plc]; omega
 | k + 1, i => by
  have ih := Yvh L s k i
  simp only [plc]; split
  ·rename_i h
   rw [List.mem_append, ih, List.mem_singleton]
   constructor
   ·rintro (⟨a, b, c⟩ | rfl)
    ·exact ⟨a, by omega, c⟩
    ·exact ⟨by omega, by omega, by rw [Int.toNat_natCast]; exact h.symm⟩
   ·rintro ⟨a, b, c⟩
    by_cases e : i = k
    ·exact .inr e
    ·exact .inl ⟨a, by omega, c⟩
  ·rename_i h
   rw [ih]
   constructor
   ·rintro ⟨a, b, c⟩; exact ⟨a, by omega, c⟩
   ·rintro ⟨a, b, c⟩
    refine ⟨a, ?_, c⟩
    by_cases e : i = k
    ·subst e; rw [Int.toNat_natCast] at c; exact absurd c.symm h
    ·omega
def Yt7 (L : List YB) (s : List Int) (P : List Int) : Bool := P.all fun i => !decide ((L.getD i.toNat default).scopes = s)
theorem Y1af {L : List YB} {k : Nat} {t : ByteArray} {s : List Int} (hk : k <= L.length) : Yt7 L s (plc L k t) = !Ymy (L.take k) t s := by
 rw [Bool.eq_iff_iff]
 simp only [Yt7, Ymy, clB, List.all_eq_true, Bool.not_eq_true', decide_eq_false_iff_not, List.any_eq_false, Bool.and_eq_true, decide_eq_true_eq, not_and]
 constructor
 ·intro h x hx e
  obtain ⟨j, hj, rfl⟩ := List.getElem_of_mem hx
  rw [List.length_take] at hj
  have e2 : (L.take k)[j]'(by rw [List.length_take]; exact hj) = L.getD j default := by simp [show j < L.length by omega]
  rw [e2] at e ⊢
  have := h (j : Int) ((Yvh L t k j).2 ⟨by omega, by omega, by rw [Int.toNat_natCast]; exact e⟩)
  rwa [Int.toNat_natCast] at this
 ·intro h i hi
  obtain ⟨a, b, c⟩ := (Yvh L t k i).1 hi
  refine h _ ?_ c
  have e : L.getD i.toNat default = (L.take k)[i.toNat]'(by rw [List.length_take]; omega) := by simp [show i.toNat < L.length by omega]
  rw [e]; exact List.getElem_mem _
theorem Y1h1 {L : List YB} {s : List Int} {P : List Int} {j : Nat} (h : j < P.length) (e : (L.getD (P.getD j default).toNat default).scopes = s) : Yt7 L s P = false := by
 unfold Yt7; rw [List.all_eq_false]; exact ⟨_, Yhn h, by rw [decide_eq_true e]; decide⟩
theorem Y1ba {L : List YB} {s : List Int} {P : List Int} {j : Nat} (h : j < P.length) (h0 : Yt7 L s (P.take j) = true) (e : (L.getD (P.getD j default).toNat default).scopes ≠ s) : Yt7 L s (P.take (j + 1)) = true := by
 unfold Yt7 at *; rw [Yi2 h, List.all_append, h0]; simpa using e
abbrev Zcu (L : List YB) : Ct := ⟨108, [], [ll (L.map Yhg)], [], .sv (lb (Yrz L))⟩
def Z6k (L : List YB) (k : Nat) : Lp Nat := .mk 51 0 (fun x => [(0, ll (L.map Yhg)), (3, .one (.mref 0)), (4, li (k : Int)), (5, .one (.ptr 1 0)),
 (12, ll (L.map Yhg)), (13, li (↑(L.map Yhg).length : Int)), (14, li (k : Int)), (25, .one (.bor 0 (.list ((plc L k (L.getD k
 default).text).map Yhh)))), (26, li (↑((plc L k (L.getD k default).text).map Yhh).length : Int)), (27, hs x 0)]) (fun x => [.map false kL (mL (plc L k)), .box (vals (Yhy
 (L.getD k default)))]) (fun k1 => [.s (li (k1 : Int))]) (fun k1 => k1 <= (plc L k (L.getD k default).text).length /\ (plc L k (L.getD k default).text).length <= 9223372036854775807
 /\ k < L.length /\ Ykj L k = true /\ Ynt (L.getD k default) = true /\ Yt7 L (L.getD k default).scopes (List.take k1 (plc L k (L.getD k default).text)) = true) (fun k1 => (plc L k
 (L.getD k default).text).length - k1) [.mk (Ykj L (k + 1) = true) (.exit 2) (fun x => [(0, ll (L.map Yhg)), (3, .one (.mref 0)), (4, li (k : Int)), (5, .one
 (.ptr 1 0)), (12, ll (L.map Yhg)), (13, li (↑(L.map Yhg).length : Int)), (14, li (k : Int))]) (fun x => [.map false kL (mL (plc L k)), .box (vals
 (Yhy (L.getD k default)))]) [], .mk (Ykj L L.length = false) .ret (fun x => [(2, hs x 0)]) (fun x => []) [.s (lb false)]]
def Z6l (L : List YB) : Lp Nat := .mk 51 0 (fun x => [(0, ll (L.map Yhg)), (3, .one (.mref 0)), (12, ll (L.map Yhg)), (13, li (↑(List.map
 Yhg L).length : Int)), (14, hs x 0)]) (fun x => [ho x 1]) (fun k => [.s (li (k : Int)), .o (.map false kL (mL (plc L k)))]) (fun k => k <= L.length /\ L.length <=
 9223372036854775807 /\ L.length <= 1000 /\ Ykj L k = true) (fun k => L.length - k) [.mk (Ykj L L.length = true) (.exit 0) (fun x => []) (fun x => []) [], .mk (Ykj L L.length =
 false) .ret (fun x => [(2, hs x 0)]) (fun x => []) [.s (lb false)]]
theorem Zfu (L : List YB) (k : Nat) : Lp.Sem Tryz.prog (Yht Tryz.f108 1) (Z6k L k) := Yi3 (fun k1 => .i ((k1 : Int) < (↑((plc L k (L.getD k
 default).text).map Yhh).length : Int)) (.x (k1 : Int) ((plc L k (L.getD k default).text).map Yhh) [cI ((plc L k (L.getD k default).text).getD k1 0)] (.w (.draw []) (.x ((plc L k
 (L.getD k default).text).getD k1 0) (L.map Yhg) (Yhy (L.getD ((plc L k (L.getD k default).text).getD k1 0).toNat default)) (.c [.rd, .rd] (Z9i (L.getD ((plc
 L k (L.getD k default).text).getD k1 0).toNat default).scopes (L.getD k default).scopes) (.i ((L.getD ((plc L k (L.getD k default).text).getD k1 0).toNat default).scopes = (L.getD
 k default).scopes) (.o 1 [] [.s (lb false)]) (.r ((k1 : Int) + 1) (.g [0, 1] (k1 + 1) [.s (li ((k1 : Int) + 1))]))))))) (.o 0 [0, 1] [])) (by
 intro k1 h; try dsimp only [Yhj, Yhq, Z6k] at h ⊢
 have g1 := Yqx L L.length (k + 1)
 have g2 : Ykj L (k + 1) = (Ykj L k && (Ynt (L.getD k default) && !Ymy (L.take k) (L.getD k default).text (L.getD k default).scopes)) := rfl
 have g3 := @Y1af L k (L.getD k default).text (L.getD k default).scopes
 have g4 := @Y1h1 L (L.getD k default).scopes (plc L k (L.getD k default).text) k1
 have g5 := @Y1ba L (L.getD k default).scopes (plc L k (L.getD k default).text) k1
 have g6 := Yvh L (L.getD k default).text k ((plc L k (L.getD k default).text).getD k1 default)
 have g7 : ∀ j, (plc L k (L.getD k default).text).length <= j -> (plc L k (L.getD k default).text).take j = plc L k (L.getD k default).text := fun j h => List.take_of_length_le h
 with_reducible repeat' (first | apply And.intro | exact zR | (intro) | apply mIc | apply mOc | apply mSc | apply mLc)
 all_goals ((try simp only [std, inj] at *); with_reducible and_intros)
 all_goals try first | exact z | exact zM | grind [Yhn, Yhl, Yhm, Yhi])
theorem Zfv (L : List YB) : Lp.Sem Tryz.prog (Yht Tryz.f108 0) (Z6l L) := Yi3 (fun k => .i ((k : Int) < (↑(L.map Yhg).length : Int)) (.x (k : Int)
 (L.map Yhg) (Yhy (L.getD k default)) (.c [.rd] (Zgr (L.getD k default)) (.b (!Ynt (L.getD k default)) (.o 1 [] [.s (lb false)]) (.w (.cells [.list
 ((plc L k (L.getD k default).text).map Yhh)]) (.p (Yps (Value.slice none 0 0) (mL (plc L k)) (Value.string (L.getD k default).text) (Cell.list ((plc L k
 (L.getD k default).text).map Yhh))) (.z Yhh (plc L k (L.getD k default).text) (.l (Z6k L k) (Zfu L k) [0, 1] [.s (li 0)] 0 (.t (.w (.draw [(6, [0]), (9, [2, 3]), (10, [4,
 0])]) (.w (.taken ((plc L k (L.getD k default).text).map Yhh) 1 (mLt (plc L k) (L.getD k default).text)) (.p (Yps (Value.slice none 0 0) (mL (plc L k)) (Value.string
 (L.getD k default).text) (Cell.list ((plc L k (L.getD k default).text).map Yhh))) (.p (Ynk kL.d (mL (plc L k)) (mLt (plc L k) (L.getD k default).text) (Value.string (L.getD
 k default).text) (some Cell.any)) (.p (some (Value.slice none 0 0) = some (Value.slice none 0 0)) (.p (∀ (x : List Cell), x ∈ (plc L k (L.getD k default).text).map Yhh ->
 x.length = 1) (.p ((((plc L k (L.getD k default).text).map Yhh).length + 1) * 8 <= 140737488355328) (.w (.upd (mL (Ypx (plc L k) (L.getD k default).text (plc L k (L.getD k
 default).text ++ [(k : Int)])))) (.p (false = false) (.p (Ynk kL.d (mLt (plc L k) (L.getD k default).text) (mL (Ypx (plc L k) (L.getD k default).text (plc L k (L.getD k
 default).text ++ [(k : Int)]))) (Value.string (L.getD k default).text) (some (Cell.list ((plc L k (L.getD k default).text).map Yhh ++ [[cI (k : Int)]])))) (.r ((k : Int)
 + 1) (.g [0] (k + 1) [.s (li ((k : Int) + 1)), .o (.map false kL (mL (Ypx (plc L k) (L.getD k default).text (plc L k (L.getD k default).text ++ [(k : Int)]))))]))))))))))))
 (.t (.o 1 [] [.s (lb false)]) .q))))))))) (.o 0 [] [])) (by
 intro k h; try dsimp only [Yhj, Yhq, Z6l, Z6k] at h ⊢
 have g1 := Yqx L L.length (k + 1)
 have g2 : Ykj L (k + 1) = (Ykj L k && (Ynt (L.getD k default) && !Ymy (L.take k) (L.getD k default).text (L.getD k default).scopes)) := rfl
 have g3 := Y18k L (L.getD k default).text k
 have g4 := @Y1hn L k
 have g5 : Yt7 L (L.getD k default).scopes ((plc L k (L.getD k default).text).take 0) = true := rfl
 with_reducible repeat' (first | apply And.intro | exact zR | (intro) | apply mIc | apply mOc | apply mSc | apply mLc)
 all_goals ((try simp only [std, inj] at *); with_reducible and_intros)
 all_goals try first | exact z | exact zM | grind [Yhn, Yhl, Yhm, Yhi]
 all_goals (try (exact Y1b7 (by simp [Yhh]))))
theorem Zhb (L : List YB)  : Zcu L := Yhv Tryz.call108 Tryz.func108 (.z Yhg L (.i (1000 < (↑(L.map Yhg).length : Int)) (.s (lb false)) (.w (.mkmap kL)
 (.z Yhg L (.l (Z6l L) (Zfv L) [0] [.s (li 0), .o (.map false kL (mL zL))] 0 (.t (.s (lb true)) (.t (.s (lb false)) .q))))))) (by
 dsimp only [Yhj, Zcu, Yhq, Z6l]
 with_reducible repeat' (first | apply And.intro | exact zR | (intro) | apply mIc | apply mOc | apply mSc | apply mLc)
 all_goals ((try simp only [std, inj] at *); with_reducible and_intros)
 all_goals try first | exact z | exact zM | grind [Yrz, Ykj, Y1ez, Yhl, Yhm, Yhi])
mutual
/-- is no scope greater than a number? -/
def blw (n : Int) : YS -> Bool
 | ⟨_, _, _, s, l⟩ => s.all (fun x => decide (x <= n)) && Y14k n l
def Y14k (n : Int) : List YS -> Bool
 | [] => true
 | x :: r => blw n x && Y14k n r
end
theorem Y18g (n : Int) : ∀ l, Y14k n l = l.all (blw n)
 | [] => by simp [Y14k]
 | x :: r => by rw [Y14k, Y18g n r]; rfl
def scB (n : Int) (L : List Int) : Bool := L.all fun x => decide (x <= n)
theorem Yxy (n : Int) (s : YS) : blw n s = (scB n s.scopes && s.items.all (blw n)) := by cases s; simp only [blw, Y18g, scB]
theorem Y149 {n : Int} {L : List Int} {k : Nat} (h : k < L.length) (e : n < L.getD k 0) : scB n L = false := by
 unfold scB; rw [List.all_eq_false]; exact ⟨L.getD k 0, Yhn h, by rw [decide_eq_false (by omega)]; decide⟩
abbrev Z1a (s : YS) (n : Int) : Ct := ⟨117, [], [Yhz s, li n], [], .sv (lb (blw n s))⟩
def Z34 (s : YS) (n : Int) : Lp Nat := .mk 32 0 (fun x => [(1, li n), (21, ll (s.items.map Yhd)), (22, li (↑(s.items.map Yhd).length : Int)), (23,
 hs x 0)]) (fun x => []) (fun k => [.s (li (k : Int))]) (fun k => k <= s.items.length /\ s.items.length <= 9223372036854775807 /\ (s.items.take k).all (blw n) = true) (fun k =>
 s.items.length - k) [.mk (s.items.all (blw n) = true) (.exit 2) (fun x => []) (fun x => []) [], .mk (s.items.all (blw n) = false) .ret (fun x => [(4, hs x 0)]) (fun x => []) [.s
 (lb false)]]
def Z35 (s : YS) (n : Int) : Lp Nat := .mk 32 0 (fun x => [(1, li n), (2, .one (.ptr 0 0)), (10, ll (s.scopes.map Yhh)), (11, li (↑(List.map Yhh
 s.scopes).length : Int)), (12, hs x 0)]) (fun x => [.box (vals (Yhk s))]) (fun k => [.s (li (k : Int))]) (fun k => k <= s.scopes.length /\ s.scopes.length <=
 9223372036854775807 /\ scB n (s.scopes.take k) = true) (fun k => s.scopes.length - k) [.mk (scB n s.scopes = true) (.exit 0) (fun x => [(1, li n), (2, .one (.ptr 0 0))])
 (fun x => [.box (vals (Yhk s))]) [], .mk (blw n s = false) .ret (fun x => [(4, hs x 0)]) (fun x => []) [.s (lb false)]]
theorem Zbu (s : YS) (n : Int) (ih : ∀ (z : YS), z ∈ s.items -> ∀ (n : Int), OK (Z1a z n)) : Lp.Sem Tryz.prog (Yht Tryz.f117 1) (Z34 s n) :=
 Yi3 (fun k => .i ((k : Int) < (↑(List.map Yhd s.items).length : Int)) (.x (k : Int) (List.map Yhd s.items) (Yhk (s.items.getD k default)) (.d [.rd, .rd] (Z1a
 (s.items.getD k default) n) (.b (!blw n (s.items.getD k default)) (.o 1 [] [.s (lb false)]) (.r ((k : Int) + 1) (.g [] (k + 1) [.s (li ((k : Int) + 1))]))))) (.o 0 [] [])) (by
 intro k h; try dsimp only [Yhj, Yhq, Z34] at h ⊢
 with_reducible repeat' (first | apply And.intro | exact zR | exact ih | (intro) | apply mIc | apply mOc | apply mSc | apply mLc | apply ih)
 all_goals ((try simp only [std, inj] at *); with_reducible and_intros)
 all_goals try with_reducible first | apply ih
 all_goals try first | exact z | exact zM | grind [Yi2, Yhn, Yhl, Yhm, Yhi])
theorem Zbv (s : YS) (n : Int) (ih : ∀ (z : YS), z ∈ s.items -> ∀ (n : Int), OK (Z1a z n)) : Lp.Sem Tryz.prog (Yht Tryz.f117 0) (Z35 s n) :=
 Yi3 (fun k => .i ((k : Int) < (↑(List.map Yhh s.scopes).length : Int)) (.x (k : Int) (List.map Yhh s.scopes) [cI (s.scopes.getD k 0)] (.i (n < s.scopes.getD k 0) (.o 1 [] [.s
 (lb false)]) (.r ((k : Int) + 1) (.g [0] (k + 1) [.s (li ((k : Int) + 1))])))) (.o 0 [0] [])) (by
 intro k h; try dsimp only [Yhj, Yhq, Z35] at h ⊢
 have g1 := Yxy n s
 have g2 := @Y149 n s.scopes k
 with_reducible repeat' (first | apply And.intro | exact zR | exact ih | (intro) | apply mIc | apply mOc | apply mSc | apply mLc | apply ih)
 all_goals ((try simp only [std, inj] at *); with_reducible and_intros)
 all_goals try with_reducible first | apply ih
 all_goals try first | exact z | exact zM | grind [Yi2, Yhn, scB, Yhl, Yhm, Yhi])
theorem Zew (s : YS) (n : Int) (ih : ∀ z ∈ s.items, ∀ (n : Int), Z1a z n)  : Z1a s n := Yhv Tryz.call117 Tryz.func117 (.z Yhh s.scopes (.l (Z35 s
 n) (Zbv s n ih) [0] [.s (li 0)] 0 (.t (.z Yhd s.items (.l (Z34 s n) (Zbu s n ih) [] [.s (li 0)] 0 (.t (.s (lb true)) (.t (.s (lb false)) .q))))
 (.t (.s (lb false)) .q)))) (by
 dsimp only [Yhj, Z1a, Yhq, Z35, Z34]
 have g1 := Yxy n s
 with_reducible repeat' (first | apply And.intro | exact zR | exact ih | (intro) | apply mIc | apply mOc | apply mSc | apply mLc)
 all_goals ((try simp only [std, inj] at *); with_reducible and_intros)
 all_goals try with_reducible first | apply ih
 all_goals try first | exact z | exact zM | grind [scB, Yhl, Yhm, Yhi])
theorem Zcv (s : YS) : ∀ (n : Int), Z1a s n := YS.ind (P := fun s => ∀ (n : Int), Z1a s n) (fun s ih n => Zew s n ih) s
abbrev Z1b (s : YS) (n : Int) : Ct := ⟨73, [], [Yhz s, li n], [], .sv (lb (blw n s))⟩
def Z36 (s : YS) (n : Int) : Lp Nat := .mk 32 0 (fun x => [(1, li n), (21, ll (s.items.map Yhd)), (22, li (↑(s.items.map Yhd).length : Int)), (23,
 hs x 0)]) (fun x => []) (fun k => [.s (li (k : Int))]) (fun k => k <= s.items.length /\ s.items.length <= 9223372036854775807 /\ (s.items.take k).all (blw n) = true) (fun k =>
 s.items.length - k) [.mk (s.items.all (blw n) = true) (.exit 2) (fun x => []) (fun x => []) [], .mk (s.items.all (blw n) = false) .ret (fun x => [(4, hs x 0)]) (fun x => []) [.s
 (lb false)]]
def Z37 (s : YS) (n : Int) : Lp Nat := .mk 32 0 (fun x => [(1, li n), (2, .one (.ptr 0 0)), (10, ll (s.scopes.map Yhh)), (11, li (↑(List.map Yhh
 s.scopes).length : Int)), (12, hs x 0)]) (fun x => [.box (vals (Yhk s))]) (fun k => [.s (li (k : Int))]) (fun k => k <= s.scopes.length /\ s.scopes.length <=
 9223372036854775807 /\ scB n (s.scopes.take k) = true) (fun k => s.scopes.length - k) [.mk (scB n s.scopes = true) (.exit 0) (fun x => [(1, li n), (2, .one (.ptr 0 0))])
 (fun x => [.box (vals (Yhk s))]) [], .mk (blw n s = false) .ret (fun x => [(4, hs x 0)]) (fun x => []) [.s (lb false)]]
theorem Zbw (s : YS) (n : Int) (ih : ∀ (z : YS), z ∈ s.items -> ∀ (n : Int), OK (Z1b z n)) : Lp.Sem Tryz.prog (Yht Tryz.f73 1) (Z36 s n) :=
 Yi3 (fun k => .i ((k : Int) < (↑(List.map Yhd s.items).length : Int)) (.x (k : Int) (List.map Yhd s.items) (Yhk (s.items.getD k default)) (.d [.rd, .rd] (Z1b
 (s.items.getD k default) n) (.b (!blw n (s.items.getD k default)) (.o 1 [] [.s (lb false)]) (.r ((k : Int) + 1) (.g [] (k + 1) [.s (li ((k : Int) + 1))]))))) (.o 0 [] [])) (by
 intro k h; try dsimp only [Yhj, Yhq, Z36] at h ⊢
 with_reducible repeat' (first | apply And.intro | exact zR | exact ih | (intro) | apply mIc | apply mOc | apply mSc | apply mLc | apply ih)
 all_goals ((try simp only [std, inj] at *); with_reducible and_intros)
 all_goals try with_reducible first | apply ih
 all_goals try first | exact z | exact zM | grind [Yi2, Yhn, Yhl, Yhm, Yhi])
theorem Zbx (s : YS) (n : Int) (ih : ∀ (z : YS), z ∈ s.items -> ∀ (n : Int), OK (Z1b z n)) : Lp.Sem Tryz.prog (Yht Tryz.f73 0) (Z37 s n) :=
 Yi3 (fun k => .i ((k : Int) < (↑(List.map Yhh s.scopes).length : Int)) (.x (k : Int) (List.map Yhh s.scopes) [cI (s.scopes.getD k 0)] (.i (n < s.scopes.getD k 0) (.o 1 [] [.s
 (lb false)]) (.r ((k : Int) + 1) (.g [0] (k + 1) [.s (li ((k : Int) + 1))])))) (.o 0 [0] [])) (by
 intro k h; try dsimp only [Yhj, Yhq, Z37] at h ⊢
 have g1 := Yxy n s
 have g2 := @Y149 n s.scopes k
 with_reducible repeat' (first | apply And.intro | exact zR | exact ih | (intro) | apply mIc | apply mOc | apply mSc | apply mLc | apply ih)
 all_goals ((try simp only [std, inj] at *); with_reducible and_intros)
 all_goals try with_reducible first | apply ih
 all_goals try first | exact z | exact zM | grind [Yi2, Yhn, scB, Yhl, Yhm, Yhi])
theorem Zex (s : YS) (n : Int) (ih : ∀ z ∈ s.items, ∀ (n : Int), Z1b z n)  : Z1b s n := Yhv Tryz.call73 Tryz.func73 (.z Yhh s.scopes (.l (Z37 s
 n) (Zbx s n ih) [0] [.s (li 0)] 0 (.t (.z Yhd s.items (.l (Z36 s n) (Zbw s n ih) [] [.s (li 0)] 0 (.t (.s (lb true)) (.t (.s (lb false)) .q))))
 (.t (.s (lb false)) .q)))) (by
 dsimp only [Yhj, Z1b, Yhq, Z37, Z36]
 have g1 := Yxy n s
 with_reducible repeat' (first | apply And.intro | exact zR | exact ih | (intro) | apply mIc | apply mOc | apply mSc | apply mLc)
 all_goals ((try simp only [std, inj] at *); with_reducible and_intros)
 all_goals try with_reducible first | apply ih
 all_goals try first | exact z | exact zM | grind [scB, Yhl, Yhm, Yhi])
theorem Z4c (s : YS) : ∀ (n : Int), Z1b s n := YS.ind (P := fun s => ∀ (n : Int), Z1b s n) (fun s ih n => Zex s n ih) s
def ruL (r : YR) : List (List YS) := [r.literals, r.patterns, r.templates]
def Yo1 (n : Int) (L : List YS) : Bool := L.all (blw n)
def Yo0 (n : Int) (r : YR) : Bool := (ruL r).all (Yo1 n)
theorem Y1gy (n : Int) (r : YR) : Yo0 n r = (Yo1 n r.literals && Yo1 n r.patterns && Yo1 n r.templates) := by
 simp only [Yo0, ruL, List.all_cons, List.all_nil, Bool.and_true, Bool.and_assoc]
def Ysi (l : List YS) : List Cell := [.list (l.map Yhd)]
def Y1g4 (l : List YS) : List Cell := [.list (l.map Yhd)]
instance : Row (List YS) Ysi Y1g4 1 := ⟨fun _ => rfl, fun _ => rfl⟩
theorem Y11m (r : YR) : [[Cell.list (r.literals.map Yhd)], [Cell.list (r.patterns.map Yhd)], [Cell.list (r.templates.map Yhd)]] = (ruL r).map Ysi := rfl
abbrev Zbi (L : List YS) (n : Int) : Ct := ⟨149, [], [ll (L.map Yhd), li n], [], .sv (lb (Yo1 n L))⟩
def Z5l (L : List YS) (n : Int) : Lp Nat := .mk 18 0 (fun x => [(1, li n), (7, ll (L.map Yhd)), (8, li (↑(L.map Yhd).length : Int)), (9, hs x 0)]) (fun
 x => []) (fun k => [.s (li (k : Int))]) (fun k => k <= L.length /\ L.length <= 9223372036854775807 /\ (L.take k).all (blw n) = true) (fun k => L.length - k) [.mk (Yo1 n L =
 true) (.exit 0) (fun x => []) (fun x => []) [], .mk (Yo1 n L = false) .ret (fun x => [(4, hs x 0)]) (fun x => []) [.s (lb false)]]
theorem Zey (L : List YS) (n : Int) : Lp.Sem Tryz.prog (Yht Tryz.f149 0) (Z5l L n) := Yi3 (fun k => .i ((k : Int) < (↑(L.map Yhd).length : Int)) (.x
 (k : Int) (L.map Yhd) (Yhk (L.getD k default)) (.c [.rd, .rd] (Z4c (L.getD k default) n) (.b (!blw n (L.getD k default)) (.o 1 [] [.s (lb false)]) (.r ((↑k :
 Int) + 1) (.g [] (k + 1) [.s (li ((k : Int) + 1))]))))) (.o 0 [] [])) (by
 intro k h; try dsimp only [Yhj, Yhq, Z5l] at h ⊢
 with_reducible repeat' (first | apply And.intro | exact zR | (intro) | apply mIc | apply mOc | apply mSc | apply mLc)
 all_goals ((try simp only [std, inj] at *); with_reducible and_intros)
 all_goals try first | exact z | exact zM | grind [Yi2, Yhn, Yo1, Yhl, Yhm, Yhi])
theorem Zar (L : List YS) (n : Int)  : Zbi L n := Yhv Tryz.call149 Tryz.func149 (.z Yhd L (.l (Z5l L n) (Zey L n) [] [.s (li 0)] 0 (.t (.s (lb true))
 (.t (.s (lb false)) .q)))) (by
 dsimp only [Yhj, Zbi, Yhq, Z5l]
 with_reducible repeat' (first | apply And.intro | exact zR | (intro) | apply mIc | apply mOc | apply mSc | apply mLc)
 all_goals ((try simp only [std, inj] at *); with_reducible and_intros)
 all_goals try first | exact z | exact zM | grind [Yo1, Yhl, Yhm, Yhi])
abbrev Zbj (r : YR) (n : Int) : Ct := ⟨75, [], [Ymi r, li n], [], .sv (lb (Yo0 n r))⟩
theorem Zh3 (r : YR) (n : Int)  : Zbj r n := Yhv Tryz.call75 Tryz.func75 (.c [.rd, .rd] (Zar r.literals n) (.b (Yo1 n r.literals) (.c [.rd, .rd] (Zar
 r.patterns n) (.b (Yo1 n r.patterns) (.c [.rd, .rd] (Zar r.templates n) (.s (lb (Yo1 n r.templates)))) (.s (lb false)))) (.y false (.s (lb false))))) (by
 dsimp only [Yhj, Zbj]
 have g1 := Y1gy n r
 with_reducible repeat' (first | apply And.intro | exact zR | (intro) | apply mIc | apply mOc | apply mSc | apply mLc)
 all_goals ((try simp only [std, inj] at *); with_reducible and_intros)
 all_goals try first | exact z | exact zM | grind [Yhl, Yhm, Yhi])
abbrev Zbk (r : YR) (n : Int) : Ct := ⟨64, [], [Ymi r, li n], [], .sv (lb (Yo0 n r))⟩
def Z5m (r : YR) (n : Int) (k : Nat) : Lp Nat := .mk 33 0 (fun x => [(1, li n), (15, .one (.ref 0)), (16, li 3), (17, li (k : Int)), (21, ll (((ruL
 r).getD (k : Int).toNat []).map Yhd)), (22, li (↑(((ruL r).getD (k : Int).toNat []).map Yhd).length : Int)), (23, hs x 0)]) (fun x => [.arr false 1 ((ruL r).map Ysi)])
 (fun k1 => [.s (li (k1 : Int))]) (fun k1 => k1 <= ((ruL r).getD k []).length /\ ((ruL r).getD k []).length <= 9223372036854775807 /\ k < 3 /\ (List.take k1 ((ruL r).getD k [])).all
 (blw n) = true) (fun k1 => ((ruL r).getD k []).length - k1) [.mk (Yo1 n ((ruL r).getD k []) = true) (.exit 2) (fun x => [(1, li n), (15, .one (.ref 0)), (16, li 3), (17, li
 (k : Int))]) (fun x => [.arr false 1 ((ruL r).map Ysi)]) [], .mk (Yo0 n r = false) .ret (fun x => [(4, hs x 0)]) (fun x => []) [.s (lb false)]]
def Z5n (r : YR) (n : Int) : Lp Nat := .mk 33 0 (fun x => [(1, li n), (15, .one (.ref 0)), (16, li 3), (17, hs x 0)]) (fun x => [ho x 1]) (fun k => [.s (li (↑k :
 Int)), .o (.arr false 1 ((ruL r).map Ysi))]) (fun k => k <= 3 /\ (List.take k (ruL r)).all (Yo1 n) = true) (fun k => 3 - k) [.mk (Yo0 n r = true) (.exit 0) (fun x => [])
 (fun x => []) [], .mk (Yo0 n r = false) .ret (fun x => [(4, hs x 0)]) (fun x => []) [.s (lb false)]]
theorem Zez (r : YR) (n : Int) (k : Nat) : Lp.Sem Tryz.prog (Yht Tryz.f64 1) (Z5m r n k) := Yi3 (fun k1 => .i ((k1 : Int) < (↑(((ruL r).getD
 (k : Int).toNat []).map Yhd).length : Int)) (.x (k1 : Int) (((ruL r).getD (k : Int).toNat []).map Yhd) (Yhk (((ruL r).getD (k : Int).toNat []).getD k1 default)) (.c [.rd,
 .rd] (Zcv (((ruL r).getD (k : Int).toNat []).getD k1 default) n) (.b (!blw n (((ruL r).getD (k : Int).toNat []).getD k1 default)) (.o 1 [] [.s (lb false)]) (.r ((k1 : Int)
 + 1) (.g [0] (k1 + 1) [.s (li ((k1 : Int) + 1))]))))) (.o 0 [0] [])) (by
 intro k1 h; try dsimp only [Yhj, Yhq, Z5m] at h ⊢
 have e : (ruL r).length = 3 := rfl
 have g1 := @Yi2 _ _ ((ruL r).getD k []) k1
 have g2 : (ruL r).getD k default = (ruL r).getD k [] := rfl
 have g3 : k < (ruL r).length -> (ruL r).getD k [] ∈ ruL r := fun h => Yhn h
 with_reducible repeat' (first | apply And.intro | exact zR | (intro) | apply mIc | apply mOc | apply mSc | apply mLc)
 all_goals ((try simp only [std, inj] at *); with_reducible and_intros)
 all_goals try first | exact z | exact zM | grind [Y11m, Yo0, Yo1, Yhn, Yhl, Yhm, Yhi])
theorem Zf0 (r : YR) (n : Int) : Lp.Sem Tryz.prog (Yht Tryz.f64 0) (Z5n r n) := Yi3 (fun k => .i ((k : Int) < 3) (.p (0 <= (k : Int) /\ (k : Int).toNat < 3)
 (.w (.cells (Y1g4 ((ruL r).getD (k : Int).toNat default))) (.p (((ruL r).map Ysi)[(k : Int).toNat]? = some [Cell.list (((ruL r).getD (k : Int).toNat
 []).map Yhd)]) (.z Yhd ((ruL r).getD (k : Int).toNat []) (.l (Z5m r n k) (Zez r n k) [0] [.s (li 0)] 0 (.t (.r ((k : Int) + 1) (.g [0] (k + 1) [.s (li ((k : Int) +
 1)), .o (.arr false 1 ((ruL r).map Ysi))])) (.t (.o 1 [] [.s (lb false)]) .q))))))) (.o 0 [] [])) (by
 intro k h; try dsimp only [Yhj, Yhq, Z5n, Z5m] at h ⊢
 have e : (ruL r).length = 3 := rfl
 have g1 := @Yi2 _ _ (ruL r) k
 have g2 : (ruL r).getD k default = (ruL r).getD k [] := rfl
 with_reducible repeat' (first | apply And.intro | exact zR | (intro) | apply mIc | apply mOc | apply mSc | apply mLc)
 all_goals ((try simp only [std, inj] at *); with_reducible and_intros)
 all_goals try first | exact z | exact zM | grind [Y11m, Yo0, Yhl, Yhm, Yhi])
theorem Zh4 (r : YR) (n : Int)  : Zbk r n := Yhv Tryz.call64 Tryz.func64 (.h (3 <= 9223372036854775807) (.l (Z5n r n) (Zf0 r n) [1] [.s (li 0), .o (.arr
 false 1 [[.list (r.literals.map Yhd)], [.list (r.patterns.map Yhd)], [.list (r.templates.map Yhd)]])] 0 (.t (.s (lb true)) (.t (.s (lb
 false)) .q)))) (by
 dsimp only [Yhj, Zbk, Yhq, Z5n]
 with_reducible repeat' (first | apply And.intro | exact zR | (intro) | apply mIc | apply mOc | apply mSc | apply mLc)
 all_goals ((try simp only [std, inj] at *); with_reducible and_intros)
 all_goals try first | exact z | exact zM | grind [Yo0, Yhl, Yhm, Yhi]
 all_goals rfl)
def Yo4 (x : YE) (b : YB) : Bool := !(decide (0 < (b.scopes.length : Int)) && decide (x.scope < b.scopes.getD ((b.scopes.length : Int) - 1).toNat 0)) && !(decide (b.kind = 3) && decide (x.vari < b.number)) && !(decide (b.kind = 4) && decide ((x.macros.length : Int) <= b.number))
def ruX (x : YE) (r : YR) : Bool := Yks r && Yo0 x.scope r
def Ym2 (x : YE) : Bool := Yrz x.bindings && decide ((x.macros.length : Int) <= 200) && decide (0 <= x.scope /\ x.scope <= 99999) && decide (0 <= x.vari /\ x.vari <= 99999) && decide (0 <= x.steps /\ x.steps <= 200) && x.macros.all (ruX x) && x.bindings.all (Yo4 x)
theorem Y11n {x : YE} {k : Nat} (hk : k < x.bindings.length) (h : Yo4 x (x.bindings.getD k default) = false) : x.bindings.all (Yo4 x) = false := by
 rw [List.all_eq_false]; exact ⟨_, Yhn hk, by rw [h]; decide⟩
theorem Y13g {x : YE} {k : Nat} (hk : k < x.macros.length) (h : ruX x (x.macros.getD k default) = false) : x.macros.all (ruX x) = false := by
 rw [List.all_eq_false]; exact ⟨_, Yhn hk, by rw [h]; decide⟩
theorem Y17d {x : YE} {k : Nat} (hk : k < x.bindings.length) (h0 : (x.bindings.take k).all (Yo4 x) = true) (h : Yo4 x (x.bindings.getD k default) = true) : (x.bindings.take (k + 1)).all (Yo4 x) = true := by
 rw [Yi2 hk, List.all_append, h0]; simpa using h
theorem Y1cc {x : YE} {k : Nat} (hk : k < x.macros.length) (h0 : (x.macros.take k).all (ruX x) = true) (h : ruX x (x.macros.getD k default) = true) : (x.macros.take (k + 1)).all (ruX x) = true := by
 rw [Yi2 hk, List.all_append, h0]; simpa using h
abbrev Z7o (x : YE) : Ct := ⟨116, [], [Ykb x], [], .sv (lb (Ym2 x))⟩
def Z4n (x : YE) : Lp Nat := .mk 103 0 (fun x_1 => [(1, .one (.ptr 0 0)), (55, ll (x.bindings.map Yhg)), (56, li (↑(x.bindings.map Yhg).length
 : Int)), (57, hs x_1 0)]) (fun x_1 => [.box (vals (Ykl x))]) (fun k => [.s (li (k : Int))]) (fun k => k <= x.bindings.length /\ x.bindings.length <= 9223372036854775807 /\
 (x.bindings.take k).all (Yo4 x) = true) (fun k => x.bindings.length - k) [.mk (x.bindings.all (Yo4 x) = true) (.exit 2) (fun x => []) (fun x => []) [], .mk (x.bindings.all
 (Yo4 x) = false) .ret (fun x => [(2, hs x 0)]) (fun x => []) [.s (lb false)]]
def Z4o (x : YE) : Lp Nat := .mk 103 0 (fun x_1 => [(1, .one (.ptr 0 0)), (37, ll (x.macros.map Yhp)), (38, li (↑(x.macros.map Yhp).length :
 Int)), (39, hs x_1 0)]) (fun x_1 => [.box (vals (Ykl x))]) (fun k => [.s (li (k : Int))]) (fun k => k <= x.macros.length /\ x.macros.length <= 9223372036854775807 /\
 (x.macros.take k).all (ruX x) = true) (fun k => x.macros.length - k) [.mk (x.macros.all (ruX x) = true) (.exit 0) (fun x => [(1, .one (.ptr 0 0))]) (fun x_1 => [.box
 (vals (Ykl x))]) [], .mk (x.macros.all (ruX x) = false) .ret (fun x => [(2, hs x 0)]) (fun x => []) [.s (lb false)]]
theorem Zdn (x : YE) (h : wX x <= 1048576) : Lp.Sem Tryz.prog (Yht Tryz.f116 1) (Z4n x) := Yi3 (fun k => .i ((k : Int) < (↑(List.map Yhg
 x.bindings).length : Int)) (.x (k : Int) (x.bindings.map Yhg) (Yhy (x.bindings.getD k default)) (.z Yhh (x.bindings.getD k default).scopes (.w (.draw []) (.i (0 <
 (↑((x.bindings.getD k default).scopes.map Yhh).length : Int)) (.r ((↑((x.bindings.getD k default).scopes.map Yhh).length : Int) - 1) (.x ((↑(List.map Yhh
 (x.bindings.getD k default).scopes).length : Int) - 1) ((x.bindings.getD k default).scopes.map Yhh) [cI ((x.bindings.getD k default).scopes.getD ((↑(List.map Yhh
 (x.bindings.getD k default).scopes).length : Int) - 1).toNat 0)] (.i (x.scope < (x.bindings.getD k default).scopes.getD ((↑((x.bindings.getD k
 default).scopes.map Yhh).length : Int) - 1).toNat 0) (.y true (.y true (.o 1 [] [.s (lb false)]))) (.i ((x.bindings.getD k default).kind = 3) (.i (x.vari < (x.bindings.getD k
 default).number) (.y true (.o 1 [] [.s (lb false)])) (.i ((x.bindings.getD k default).kind = 4) (.z Yhp x.macros (.i ((↑(x.macros.map Yhp).length : Int) <=
 (x.bindings.getD k default).number) (.o 1 [] [.s (lb false)]) (.r ((k : Int) + 1) (.g [0] (k + 1) [.s (li ((k : Int) + 1))])))) (.y false (.r ((k : Int) + 1) (.g [0] (k + 1)
 [.s (li ((k : Int) + 1))]))))) (.y false (.i ((x.bindings.getD k default).kind = 4) (.z Yhp x.macros (.i ((↑(x.macros.map Yhp).length : Int) <= (x.bindings.getD k
 default).number) (.o 1 [] [.s (lb false)]) (.r ((k : Int) + 1) (.g [0] (k + 1) [.s (li ((k : Int) + 1))])))) (.y false (.r ((k : Int) + 1) (.g [0] (k + 1) [.s (li ((k : Int) +
 1))]))))))))) (.y false (.i ((x.bindings.getD k default).kind = 3) (.i (x.vari < (x.bindings.getD k default).number) (.y true (.o 1 [] [.s (lb false)])) (.i ((x.bindings.getD k
 default).kind = 4) (.z Yhp x.macros (.i ((↑(x.macros.map Yhp).length : Int) <= (x.bindings.getD k default).number) (.o 1 [] [.s (lb false)]) (.r ((k : Int) + 1) (.g [0]
 (k + 1) [.s (li ((k : Int) + 1))])))) (.y false (.r ((k : Int) + 1) (.g [0] (k + 1) [.s (li ((k : Int) + 1))]))))) (.y false (.i ((x.bindings.getD k default).kind = 4) (.z
 Yhp x.macros (.i ((↑(x.macros.map Yhp).length : Int) <= (x.bindings.getD k default).number) (.o 1 [] [.s (lb false)]) (.r ((k : Int) + 1) (.g [0] (k + 1) [.s (li ((↑k :
 Int) + 1))])))) (.y false (.r ((k : Int) + 1) (.g [0] (k + 1) [.s (li ((k : Int) + 1))]))))))))))) (.o 0 [] [])) (by
 intro k h; try dsimp only [Yhj, Yhq, Z4n] at h ⊢
 have g1 := Ymg x
 have g2 := @Yi9 _ wB x.bindings (x.bindings.getD k default)
 have g3 := @Y11n x k
 have g4 := @Y17d x k
 have g5 : Yo4 x (x.bindings.getD k default) = (!(decide (0 < ((x.bindings.getD k default).scopes.length : Int)) && decide (x.scope < (x.bindings.getD k default).scopes.getD (((x.bindings.getD k default).scopes.length : Int) - 1).toNat 0)) && !(decide ((x.bindings.getD k default).kind = 3) && decide (x.vari < (x.bindings.getD k default).number)) && !(decide ((x.bindings.getD k default).kind = 4) && decide ((x.macros.length : Int) <= (x.bindings.getD k default).number))) := rfl
 have g6 : x.bindings.length <= k -> x.bindings.take k = x.bindings := fun h => List.take_of_length_le h
 have g7 := Ytn (x.bindings.getD k default)
 with_reducible repeat' (first | apply And.intro | exact zR | (intro) | apply mIc | apply mOc | apply mSc | apply mLc | apply Z2m)
 all_goals ((try simp only [std, inj] at *); with_reducible and_intros)
 all_goals try with_reducible first | apply Z2m
 all_goals try first | exact z | exact zM | grind [Yhn, Yhl, Yhm, Yhi])
theorem Zdo (x : YE) (h : wX x <= 1048576) : Lp.Sem Tryz.prog (Yht Tryz.f116 0) (Z4o x) := Yi3 (fun k => .i ((k : Int) < (↑(List.map Yhp
 x.macros).length : Int)) (.x (k : Int) (x.macros.map Yhp) (Yiv (x.macros.getD k default)) (.d [.rd] (Z69 (x.macros.getD k default)) (.b (!Yks (x.macros.getD
 k default)) (.y true (.o 1 [] [.s (lb false)])) (.c [.rd, .rd] (Zh4 (x.macros.getD k default) x.scope) (.b (!Yo0 x.scope (x.macros.getD k default)) (.o 1 [] [.s (lb false)])
 (.r ((k : Int) + 1) (.g [0] (k + 1) [.s (li ((k : Int) + 1))]))))))) (.o 0 [0] [])) (by
 intro k h; try dsimp only [Yhj, Yhq, Z4o] at h ⊢
 have g1 := Ymg x
 have g2 := @Yi9 _ wR x.macros (x.macros.getD k default)
 have g3 := @Y13g x k
 have g4 := @Y1cc x k
 have g5 : ruX x (x.macros.getD k default) = (Yks (x.macros.getD k default) && Yo0 x.scope (x.macros.getD k default)) := rfl
 have g6 : x.macros.length <= k -> x.macros.take k = x.macros := fun h => List.take_of_length_le h
 with_reducible repeat' (first | apply And.intro | exact zR | (intro) | apply mIc | apply mOc | apply mSc | apply mLc | apply Z2m)
 all_goals ((try simp only [std, inj] at *); with_reducible and_intros)
 all_goals try with_reducible first | apply Z2m
 all_goals try first | exact z | exact zM | grind [Yhn, Yhl, Yhm, Yhi])
theorem Zcw (x : YE) (h : wX x <= 1048576)  : Z7o x := Yhv Tryz.call116 Tryz.func116 (.c [.rd] (Zha x.bindings) (.b (!Yrz x.bindings) (.y true (.y true (.y true
 (.y true (.s (lb false)))))) (.z Yhp x.macros (.i (200 < (↑(x.macros.map Yhp).length : Int)) (.y true (.y true (.y true (.s (lb false))))) (.c [.rd, .rd, .rd] (Z1k
 x.scope 0 99999) (.b (!decide (0 <= x.scope /\ x.scope <= 99999)) (.y true (.y true (.s (lb false)))) (.c [.rd, .rd, .rd] (Z1k x.vari 0 99999) (.b (!decide (0 <= x.vari /\ x.vari <=
 99999)) (.y true (.s (lb false))) (.c [.rd, .rd, .rd] (Z1k x.steps 0 200) (.b (!decide (0 <= x.steps /\ x.steps <= 200)) (.s (lb false)) (.z Yhp x.macros (.l (Z4o x)
 (Zdo x h) [0] [.s (li 0)] 0 (.t (.z Yhg x.bindings (.l (Z4n x) (Zdn x h) [0] [.s (li 0)] 0 (.t (.s (lb true)) (.t (.s (lb false)) .q)))) (.t (.s (lb
 false)) .q)))))))))))))) (by
 dsimp only [Yhj, Z7o, Yhq, Z4o, Z4n]
 with_reducible repeat' (first | apply And.intro | exact zR | (intro) | apply mIc | apply mOc | apply mSc | apply mLc | apply Z2m)
 all_goals ((try simp only [std, inj] at *); with_reducible and_intros)
 all_goals try with_reducible first | apply Z2m
 all_goals try first | exact z | exact zM | grind [Ym2, Yhl, Yhm, Yhi])
abbrev Z7p (x : YE) : Ct := ⟨71, [], [Ykb x], [], .sv (lb (Ym2 x))⟩
def Z4p (x : YE) : Lp Nat := .mk 115 0 (fun x_1 => [(1, .one (.ptr 0 0)), (66, ll (x.bindings.map Yhg)), (67, li (↑(x.bindings.map Yhg).length
 : Int)), (68, hs x_1 0)]) (fun x_1 => [.box (vals (Ykl x))]) (fun k => [.s (li (k : Int))]) (fun k => k <= x.bindings.length /\ x.bindings.length <= 9223372036854775807 /\
 (x.bindings.take k).all (Yo4 x) = true) (fun k => x.bindings.length - k) [.mk (x.bindings.all (Yo4 x) = true) (.exit 2) (fun x => []) (fun x => []) [], .mk (x.bindings.all
 (Yo4 x) = false) .ret (fun x => [(2, hs x 0)]) (fun x => []) [.s (lb false)]]
def Z4q (x : YE) : Lp Nat := .mk 115 0 (fun x_1 => [(1, .one (.ptr 0 0)), (48, ll (x.macros.map Yhp)), (49, li (↑(x.macros.map Yhp).length :
 Int)), (50, hs x_1 0)]) (fun x_1 => [.box (vals (Ykl x))]) (fun k => [.s (li (k : Int))]) (fun k => k <= x.macros.length /\ x.macros.length <= 9223372036854775807 /\
 (x.macros.take k).all (ruX x) = true) (fun k => x.macros.length - k) [.mk (x.macros.all (ruX x) = true) (.exit 0) (fun x => [(1, .one (.ptr 0 0))]) (fun x_1 => [.box
 (vals (Ykl x))]) [], .mk (x.macros.all (ruX x) = false) .ret (fun x => [(2, hs x 0)]) (fun x => []) [.s (lb false)]]
theorem Zdp (x : YE) (h : wX x <= 1048576) : Lp.Sem Tryz.prog (Yht Tryz.f71 1) (Z4p x) := Yi3 (fun k => .i ((k : Int) < (↑(List.map Yhg
 x.bindings).length : Int)) (.x (k : Int) (x.bindings.map Yhg) (Yhy (x.bindings.getD k default)) (.w (.draw []) (.i (0 < (↑((x.bindings.getD k
 default).scopes.map Yhh).length : Int)) (.r ((↑((x.bindings.getD k default).scopes.map Yhh).length : Int) - 1) (.x ((↑((x.bindings.getD k default).scopes.map Yhh).length :
 Int) - 1) ((x.bindings.getD k default).scopes.map Yhh) [cI ((x.bindings.getD k default).scopes.getD ((↑((x.bindings.getD k default).scopes.map Yhh).length : Int) -
 1).toNat 0)] (.i (x.scope < (x.bindings.getD k default).scopes.getD ((↑((x.bindings.getD k default).scopes.map Yhh).length : Int) - 1).toNat 0) (.y true (.z Yhh
 (x.bindings.getD k default).scopes (.z Yhh (x.bindings.getD k default).scopes (.y true (.o 1 [] [.s (lb false)]))))) (.i ((x.bindings.getD k default).kind = 3) (.i (x.vari <
 (x.bindings.getD k default).number) (.z Yhh (x.bindings.getD k default).scopes (.z Yhh (x.bindings.getD k default).scopes (.y true (.o 1 [] [.s (lb false)])))) (.i
 ((x.bindings.getD k default).kind = 4) (.z Yhh (x.bindings.getD k default).scopes (.z Yhh (x.bindings.getD k default).scopes (.z Yhp x.macros (.i ((↑(List.map Yhp
 x.macros).length : Int) <= (x.bindings.getD k default).number) (.o 1 [] [.s (lb false)]) (.r ((k : Int) + 1) (.g [0] (k + 1) [.s (li ((k : Int) + 1))])))))) (.z Yhh
 (x.bindings.getD k default).scopes (.z Yhh (x.bindings.getD k default).scopes (.y false (.r ((k : Int) + 1) (.g [0] (k + 1) [.s (li ((k : Int) + 1))]))))))) (.y false (.i
 ((x.bindings.getD k default).kind = 4) (.z Yhh (x.bindings.getD k default).scopes (.z Yhh (x.bindings.getD k default).scopes (.z Yhp x.macros (.i ((↑(List.map Yhp
 x.macros).length : Int) <= (x.bindings.getD k default).number) (.o 1 [] [.s (lb false)]) (.r ((k : Int) + 1) (.g [0] (k + 1) [.s (li ((k : Int) + 1))])))))) (.z Yhh
 (x.bindings.getD k default).scopes (.z Yhh (x.bindings.getD k default).scopes (.y false (.r ((k : Int) + 1) (.g [0] (k + 1) [.s (li ((k : Int) + 1))]))))))))))) (.y false (.i
 ((x.bindings.getD k default).kind = 3) (.i (x.vari < (x.bindings.getD k default).number) (.z Yhh (x.bindings.getD k default).scopes (.y true (.o 1 [] [.s (lb false)]))) (.i
 ((x.bindings.getD k default).kind = 4) (.z Yhh (x.bindings.getD k default).scopes (.z Yhp x.macros (.i ((↑(x.macros.map Yhp).length : Int) <= (x.bindings.getD k
 default).number) (.o 1 [] [.s (lb false)]) (.r ((k : Int) + 1) (.g [0] (k + 1) [.s (li ((k : Int) + 1))]))))) (.z Yhh (x.bindings.getD k default).scopes (.y false (.r ((↑k :
 Int) + 1) (.g [0] (k + 1) [.s (li ((k : Int) + 1))])))))) (.y false (.i ((x.bindings.getD k default).kind = 4) (.z Yhh (x.bindings.getD k default).scopes (.z Yhp x.macros (.i
 ((↑(x.macros.map Yhp).length : Int) <= (x.bindings.getD k default).number) (.o 1 [] [.s (lb false)]) (.r ((k : Int) + 1) (.g [0] (k + 1) [.s (li ((k : Int) + 1))])))))
 (.z Yhh (x.bindings.getD k default).scopes (.y false (.r ((k : Int) + 1) (.g [0] (k + 1) [.s (li ((k : Int) + 1))]))))))))))) (.o 0 [] [])) (by
 intro k h; try dsimp only [Yhj, Yhq, Z4p] at h ⊢
 have g1 := Ymg x
 have g2 := @Yi9 _ wB x.bindings (x.bindings.getD k default)
 have g3 := @Y11n x k
 have g4 := @Y17d x k
 have g5 : Yo4 x (x.bindings.getD k default) = (!(decide (0 < ((x.bindings.getD k default).scopes.length : Int)) && decide (x.scope < (x.bindings.getD k default).scopes.getD (((x.bindings.getD k default).scopes.length : Int) - 1).toNat 0)) && !(decide ((x.bindings.getD k default).kind = 3) && decide (x.vari < (x.bindings.getD k default).number)) && !(decide ((x.bindings.getD k default).kind = 4) && decide ((x.macros.length : Int) <= (x.bindings.getD k default).number))) := rfl
 have g6 : x.bindings.length <= k -> x.bindings.take k = x.bindings := fun h => List.take_of_length_le h
 have g7 := Ytn (x.bindings.getD k default)
 with_reducible repeat' (first | apply And.intro | exact zR | (intro) | apply mIc | apply mOc | apply mSc | apply mLc | apply Z2n)
 all_goals ((try simp only [std, inj] at *); with_reducible and_intros)
 all_goals try with_reducible first | apply Z2n
 all_goals try first | exact z | exact zM | grind [Yhn, Yhl, Yhm, Yhi])
theorem Zdq (x : YE) (h : wX x <= 1048576) : Lp.Sem Tryz.prog (Yht Tryz.f71 0) (Z4q x) := Yi3 (fun k => .i ((k : Int) < (↑(List.map Yhp
 x.macros).length : Int)) (.x (k : Int) (x.macros.map Yhp) (Yiv (x.macros.getD k default)) (.d [.rd] (Z6a (x.macros.getD k default)) (.b (!Yks (x.macros.getD
 k default)) (.y true (.o 1 [] [.s (lb false)])) (.c [.rd, .rd] (Zh3 (x.macros.getD k default) x.scope) (.b (!Yo0 x.scope (x.macros.getD k default)) (.o 1 [] [.s (lb false)])
 (.r ((k : Int) + 1) (.g [0] (k + 1) [.s (li ((k : Int) + 1))]))))))) (.o 0 [0] [])) (by
 intro k h; try dsimp only [Yhj, Yhq, Z4q] at h ⊢
 have g1 := Ymg x
 have g2 := @Yi9 _ wR x.macros (x.macros.getD k default)
 have g3 := @Y13g x k
 have g4 := @Y1cc x k
 have g5 : ruX x (x.macros.getD k default) = (Yks (x.macros.getD k default) && Yo0 x.scope (x.macros.getD k default)) := rfl
 have g6 : x.macros.length <= k -> x.macros.take k = x.macros := fun h => List.take_of_length_le h
 with_reducible repeat' (first | apply And.intro | exact zR | (intro) | apply mIc | apply mOc | apply mSc | apply mLc | apply Z2n)
 all_goals ((try simp only [std, inj] at *); with_reducible and_intros)
 all_goals try with_reducible first | apply Z2n
 all_goals try first | exact z | exact zM | grind [Yhn, Yhl, Yhm, Yhi])
theorem Z7q (x : YE) (h : wX x <= 1048576)  : Z7p x := Yhv Tryz.call71 Tryz.func71 (.c [.rd] (Zhb x.bindings) (.b (!Yrz x.bindings) (.y true (.y true (.y true
 (.y true (.y true (.y true (.y true (.s (lb false))))))))) (.z Yhp x.macros (.i (200 < (↑(x.macros.map Yhp).length : Int)) (.y true (.y true (.y true (.y true (.y true
 (.y true (.s (lb false)))))))) (.i (x.scope < 0) (.y true (.y true (.y true (.y true (.y true (.s (lb false))))))) (.i (99999 < x.scope) (.y true (.y true (.y true (.y true (.s
 (lb false)))))) (.i (x.vari < 0) (.y true (.y true (.y true (.s (lb false))))) (.i (99999 < x.vari) (.y true (.y true (.s (lb false)))) (.i (x.steps < 0) (.y true (.s (lb false)))
 (.i (200 < x.steps) (.s (lb false)) (.z Yhp x.macros (.l (Z4q x) (Zdq x h) [0] [.s (li 0)] 0 (.t (.z Yhg x.bindings (.l (Z4p x) (Zdp x h)
 [0] [.s (li 0)] 0 (.t (.s (lb true)) (.t (.s (lb false)) .q)))) (.t (.s (lb false)) .q)))))))))))))) (by
 dsimp only [Yhj, Z7p, Yhq, Z4q, Z4p]
 with_reducible repeat' (first | apply And.intro | exact zR | (intro) | apply mIc | apply mOc | apply mSc | apply mLc | apply Z2n)
 all_goals ((try simp only [std, inj] at *); with_reducible and_intros)
 all_goals try with_reducible first | apply Z2n
 all_goals try first | exact z | exact zM | grind [Ym2, Yhl, Yhm, Yhi])
set_option maxHeartbeats 4000000
abbrev Z44 (L : List YB) : Ct := ⟨138, [], [ll (L.map Yhg)], [.arr true 4 (L.map Yhg)], .sv (.one (.ref 0))⟩
def Z4r (L : List YB) : Lp Nat := .mk 28 0 (fun x => [(3, .one (.ref 0)), (7, ll (L.map Yhg)), (8, li (↑(L.map Yhg).length : Int)), (9, hs x
 0)]) (fun x => [ho x 1]) (fun k => [.s (li (k : Int)), .o (.arr true 4 ((L.take k).map Yhg))]) (fun k => k <= L.length /\ L.length <= 9223372036854775807) (fun k =>
 L.length - k) [.mk True (.exit 0) (fun x => [(3, .one (.ref 0))]) (fun x => [ho x 0]) [.o (.arr true 4 (L.map Yhg))]]
theorem Zdr (L : List YB) (h : L.length <= 1048577 /\ Yhe wB L <= 1048577) : Lp.Sem Tryz.prog (Yht Tryz.f138 0) (Z4r L) := Yi3 (fun k => .i ((k : Int) <
 (↑(L.map Yhg).length : Int)) (.x (k : Int) (L.map Yhg) (Yhy (L.getD k default)) (.w (.draw [(11, [2]), (12, [0, 10])]) (.d [.rd] (Z3p (L.getD k
 default).scopes) (.p ((((L.take k).map Yhg).length + 1) * 56 <= 140737488355328) (.r ((k : Int) + 1) (.g [11] (k + 1) [.s (li ((k : Int) + 1)), .o (.arr true 4
 ((L.take k).map Yhg ++ [Yhy (L.getD k default)]))])))))) (.o 0 [0] [.o (.arr true 4 ((L.take k).map Yhg))])) (by
 intro k h; try dsimp only [Yhj, Yhq, Z4r] at h ⊢
 have g2 := @Yi9 _ wB L (L.getD k default)
 have g3 := Ytn (L.getD k default)
 with_reducible repeat' (first | apply And.intro | exact zR | (intro) | apply Z8)
 all_goals ((try simp only [std, inj] at *); with_reducible and_intros)
 all_goals try first | with_reducible (first | apply Z8) | (simp only [<- List.map_append]; with_reducible first | apply Z8)
 all_goals try first | exact z | grind [Yi2, Yhl, Yhm, Yhi, Yhn])
theorem Z9 (L : List YB) (h : L.length <= 1048577 /\ Yhe wB L <= 1048577)  : Z44 L := Yhv Tryz.call138 Tryz.func138 (.w (.bool false) (.z Yhg L (.l
 (Z4r L) (Zdr L h) [0] [.s (li 0), .o (.arr true 4 [])] 0 (.t (.f [0] [.arr true 4 (L.map Yhg)] (.sv (.one (.ref 0)))) .q)))) (by
 dsimp only [Yhj, Z44, Yhq, Z4r]
 with_reducible repeat' (first | apply And.intro | exact zR | (intro) | apply Z8)
 all_goals ((try simp only [std, inj] at *); with_reducible and_intros)
 all_goals try with_reducible first | apply Z8
 all_goals (try exact zG))
abbrev Z4s (b : YB) : Ct := ⟨227, [], [Ym7 b], Ywu b, .sv (Yxd b 0)⟩
theorem Zl (b : YB) (h : wB b <= 1048577)  : Z4s b := Yhv Tryz.call227 Tryz.func227 (.d [.rd] (Zi b.scopes) (.f [2] [.arr true 1 (List.map Yhh
 b.scopes)] (.sv (.agg [vS b.text, .ref 0, vI b.kind, vI b.number])))) (by
 dsimp only [Yhj, Z4s]
 have g3 := Ytn b
 with_reducible repeat' (first | apply And.intro | exact zR | (intro) | apply Z2)
 all_goals ((try simp only [std, inj] at *); with_reducible and_intros)
 all_goals try with_reducible first | apply Z2
 all_goals (try exact zG))
abbrev Z7r (L : List YB) : Ct := ⟨142, [], [ll (L.map Yhg)], [.arr true 4 (L.map Yhg)], .sv (.one (.ref 0))⟩
def Z4t (L : List YB) : Lp Nat := .mk 19 0 (fun x => [(3, .one (.ref 0)), (6, ll (L.map Yhg)), (7, li (↑(L.map Yhg).length : Int)), (8, hs x
 0)]) (fun x => [ho x 1]) (fun k => [.s (li (k : Int)), .o (.arr true 4 ((L.take k).map Yhg))]) (fun k => k <= L.length /\ L.length <= 9223372036854775807) (fun k =>
 L.length - k) [.mk True (.exit 0) (fun x => [(3, .one (.ref 0))]) (fun x => [ho x 0]) [.o (.arr true 4 (L.map Yhg))]]
theorem Zds (L : List YB) (h : L.length <= 1048577 /\ Yhe wB L <= 1048577) : Lp.Sem Tryz.prog (Yht Tryz.f142 0) (Z4t L) := Yi3 (fun k => .i ((k : Int) <
 (↑(L.map Yhg).length : Int)) (.x (k : Int) (L.map Yhg) (Yhy (L.getD k default)) (.d [.rd] (Z4s (L.getD k default)) (.p (((List.map Yhg
 (L.take k)).length + 1) * 56 <= 140737488355328) (.r ((k : Int) + 1) (.g [4] (k + 1) [.s (li ((k : Int) + 1)), .o (.arr true 4 ((L.take k).map Yhg ++
 [Yhy (L.getD k default)]))]))))) (.o 0 [0] [.o (.arr true 4 ((L.take k).map Yhg))])) (by
 intro k h; try dsimp only [Yhj, Yhq, Z4t] at h ⊢
 have g2 := @Yi9 _ wB L (L.getD k default)
 with_reducible repeat' (first | apply And.intro | exact zR | (intro) | apply Zl)
 all_goals ((try simp only [std, inj] at *); with_reducible and_intros)
 all_goals try first | with_reducible (first | apply Zl) | (simp only [<- List.map_append]; with_reducible first | apply Zl)
 all_goals try first | exact z | grind [Yi2, Yhl, Yhm, Yhi, Yhn])
theorem Z6b (L : List YB) (h : L.length <= 1048577 /\ Yhe wB L <= 1048577)  : Z7r L := Yhv Tryz.call142 Tryz.func142 (.z Yhg L (.w (.ghost (.nilreg 3 true 4))
 (.l (Z4t L) (Zds L h) [0] [.s (li 0), .o (.arr true 4 [])] 0 (.t (.f [0] [.arr true 4 (L.map Yhg)] (.sv (.one (.ref 0)))) .q)))) (by
 dsimp only [Yhj, Z7r, Yhq, Z4t]
 with_reducible repeat' (first | apply And.intro | exact zR | (intro) | apply Zl)
 all_goals ((try simp only [std, inj] at *); with_reducible and_intros)
 all_goals try with_reducible first | apply Zl
 all_goals (try exact zG))
abbrev Z2x (L : List YS) : Ct := ⟨228, [], [ll (L.map Yhd)], [.arr true 5 (L.map Yhd)], .sv (.one (.ref 0))⟩
def Z45 (L : List YS) : Lp Nat := .mk 19 0 (fun x => [(3, .one (.ref 0)), (6, ll (L.map Yhd)), (7, li (↑(L.map Yhd).length : Int)), (8, hs x 0)])
 (fun x => [ho x 1]) (fun k => [.s (li (k : Int)), .o (.arr true 5 ((L.take k).map Yhd))]) (fun k => k <= L.length /\ L.length <= 9223372036854775807) (fun k =>
 L.length - k) [.mk True (.exit 0) (fun x => [(3, .one (.ref 0))]) (fun x => [ho x 0]) [.o (.arr true 5 (L.map Yhd))]]
theorem Zcx (L : List YS) (h : L.length <= 1048576 /\ Yhe wY L <= 1048576) : Lp.Sem Tryz.prog (Yht Tryz.f228 0) (Z45 L) := Yi3 (fun k => .i ((k : Int) <
 (↑(L.map Yhd).length : Int)) (.x (k : Int) (L.map Yhd) (Yhk (L.getD k default)) (.d [.rd] (Zr (L.getD k default)) (.p ((((List.take
 k L).map Yhd).length + 1) * 80 <= 140737488355328) (.r ((k : Int) + 1) (.g [5] (k + 1) [.s (li ((k : Int) + 1)), .o (.arr true 5 ((L.take k).map Yhd ++ [Yhk (L.getD k
 default)]))]))))) (.o 0 [0] [.o (.arr true 5 ((L.take k).map Yhd))])) (by
 intro k h; try dsimp only [Yhj, Yhq, Z45] at h ⊢
 have g2 := @Yi9 _ wY L (L.getD k default)
 with_reducible repeat' (first | apply And.intro | exact zR | (intro) | apply Z3)
 all_goals ((try simp only [std, inj] at *); with_reducible and_intros)
 all_goals try first | with_reducible (first | apply Z3) | (simp only [<- List.map_append]; with_reducible first | apply Z3)
 all_goals try first | exact z | grind [Yi2, Yhl, Yhm, Yhi, Yhn])
theorem Zbl (L : List YS) (h : L.length <= 1048576 /\ Yhe wY L <= 1048576)  : Z2x L := Yhv Tryz.call228 Tryz.func228 (.z Yhd L (.w (.ghost (.nilreg 3 true 5))
 (.l (Z45 L) (Zcx L h) [0] [.s (li 0), .o (.arr true 5 [])] 0 (.t (.f [0] [.arr true 5 (L.map Yhd)] (.sv (.one (.ref 0)))) .q)))) (by
 dsimp only [Yhj, Z2x, Yhq, Z45]
 with_reducible repeat' (first | apply And.intro | exact zR | (intro) | apply Z3)
 all_goals ((try simp only [std, inj] at *); with_reducible and_intros)
 all_goals try with_reducible first | apply Z3
 all_goals (try exact zG))
abbrev Z7s (r : YR) : Ct := ⟨143, [], [Ymi r], Y15t r, .sv (Y12z r 0)⟩
theorem Z6c (r : YR) (h : wR r <= 1048576)  : Z7s r := Yhv Tryz.call143 Tryz.func143 (.w (.draw [(10, [1])]) (.d [.rd] (Z2x r.literals) (.d [.rd] (Z2x
 r.patterns) (.d [.rd] (Z2x r.templates) (.f [2, 10, 18] [.arr true 5 (r.literals.map Yhd), .arr true 5 (r.patterns.map Yhd), .arr true 5 (List.map
 Yhd r.templates)] (.sv (.agg [.ref 0, .ref 1, .ref 2]))))))) (by
 dsimp only [Yhj, Z7s]
 have g := Ynv r
 with_reducible repeat' (first | apply And.intro | exact zR | (intro) | apply Zbl)
 all_goals ((try simp only [std, inj] at *); with_reducible and_intros)
 all_goals try with_reducible first | apply Zbl
 all_goals (try exact zG))
abbrev Z7t (r : YR) : Ct := ⟨67, [], [Ymi r], Y15t r, .sv (Y12z r 0)⟩
def Z4u (r : YR) : Lp Nat := .mk 57 0 (fun x => [(2, .one (.ptr 0 0)), (3, .one (.ptr 1 0)), (42, ll (r.templates.map Yhd)), (43, li (↑(List.map Yhd
 r.templates).length : Int)), (44, hs x 0)]) (fun x => [.box [.val (.lit (.slice none 0 0)), .val (.lit (.slice none 0 0)), .val (.lit (.slice
 none 0 0))], .box [.ref 2, .ref 3, .ref 4], .arr true 5 (r.literals.map Yhd), .arr true 5 (r.patterns.map Yhd), ho x 1]) (fun k => [.s (li (↑k :
 Int)), .o (.arr true 5 ((r.templates.take k).map Yhd))]) (fun k => k <= r.templates.length /\ r.templates.length <= 9223372036854775807) (fun k => r.templates.length
 - k) [.mk True (.exit 4) (fun x => [(2, .one (.ptr 0 0)), (3, .one (.ptr 1 0))]) (fun x => [.box [.val (.lit (.slice none 0 0)), .val (.lit (.slice
 none 0 0)), .val (.lit (.slice none 0 0))], .box [.ref 2, .ref 3, .ref 4], .arr true 5 (r.literals.map Yhd), .arr true 5 (List.map Yhd
 r.patterns), ho x 0]) [.o (.arr true 5 (r.templates.map Yhd))]]
def Z4v (r : YR) : Lp Nat := .mk 57 0 (fun x => [(1, .one (.ptr 0 0)), (2, .one (.ptr 1 0)), (3, .one (.ptr 2 0)), (27, ll (r.patterns.map Yhd)),
 (28, li (↑(r.patterns.map Yhd).length : Int)), (29, hs x 0)]) (fun x => [.box (vals (Yiv r)), .box [.val (.lit (.slice none 0 0)), .val (.lit
 (.slice none 0 0)), .val (.lit (.slice none 0 0))], .box [.ref 3, .ref 4, .val (.lit (.slice none 0 0))], .arr true 5 (List.map Yhd
 r.literals), ho x 1]) (fun k => [.s (li (k : Int)), .o (.arr true 5 ((r.patterns.take k).map Yhd))]) (fun k => k <= r.patterns.length /\ r.patterns.length <=
 9223372036854775807) (fun k => r.patterns.length - k) [.mk True (.exit 2) (fun x => [(1, .one (.ptr 0 0)), (2, .one (.ptr 1 0)), (3, .one (.ptr 2 0))]) (fun x =>
 [.box (vals (Yiv r)), .box [.val (.lit (.slice none 0 0)), .val (.lit (.slice none 0 0)), .val (.lit (.slice none 0 0))], .box [.ref 3,
 .ref 4, .val (.lit (.slice none 0 0))], .arr true 5 (r.literals.map Yhd), ho x 0]) [.o (.arr true 5 (r.patterns.map Yhd))]]
def Z4w (r : YR) : Lp Nat := .mk 57 0 (fun x => [(1, .one (.ptr 0 0)), (2, .one (.ptr 1 0)), (3, .one (.ptr 2 0)), (12, ll (r.literals.map Yhd)),
 (13, li (↑(r.literals.map Yhd).length : Int)), (14, hs x 0)]) (fun x => [.box (vals (Yiv r)), .box [.val (.lit (.slice none 0 0)), .val (.lit
 (.slice none 0 0)), .val (.lit (.slice none 0 0))], .box [.ref 3, .val (.lit (.slice none 0 0)), .val (.lit (.slice none 0 0))], ho x 1])
 (fun k => [.s (li (k : Int)), .o (.arr true 5 ((r.literals.take k).map Yhd))]) (fun k => k <= r.literals.length /\ r.literals.length <= 9223372036854775807) (fun k
 => r.literals.length - k) [.mk True (.exit 0) (fun x => [(1, .one (.ptr 0 0)), (2, .one (.ptr 1 0)), (3, .one (.ptr 2 0))]) (fun x => [.box (vals (Yiv r)), .box
 [.val (.lit (.slice none 0 0)), .val (.lit (.slice none 0 0)), .val (.lit (.slice none 0 0))], .box [.ref 3, .val (.lit (.slice
 none 0 0)), .val (.lit (.slice none 0 0))], ho x 0]) [.o (.arr true 5 (r.literals.map Yhd))]]
theorem Zdt (r : YR) (h : wR r <= 1048576) : Lp.Sem Tryz.prog (Yht Tryz.f67 2) (Z4u r) := Yi3 (fun k => .i ((k : Int) < (↑(List.map Yhd
 r.templates).length : Int)) (.x (k : Int) (r.templates.map Yhd) (Yhk (r.templates.getD k default)) (.w (.draw [(4, [6, 7]), (5, [4, 14]), (7, [1])]) (.d [.rd]
 (Zb (r.templates.getD k default)) (.p ((((r.templates.take k).map Yhd).length + 1) * 80 <= 140737488355328) (.r ((k : Int) + 1) (.g [0, 1, 2, 3, 15] (k + 1)
 [.s (li ((k : Int) + 1)), .o (.arr true 5 ((r.templates.take k).map Yhd ++ [Yhk (r.templates.getD k default)]))])))))) (.o 0 [0, 1, 2, 3, 4] [.o (.arr true
 5 ((r.templates.take k).map Yhd))])) (by
 intro k h; try dsimp only [Yhj, Yhq, Z4u] at h ⊢
 have g := Ynv r
 have g2 := @Yi9 _ wY r.templates (r.templates.getD k default)
 with_reducible repeat' (first | apply And.intro | exact zR | (intro) | apply Z1)
 all_goals ((try simp only [std, inj] at *); with_reducible and_intros)
 all_goals try first | with_reducible (first | apply Z1) | (simp only [<- List.map_append]; with_reducible first | apply Z1)
 all_goals try first | exact z | grind [Yi2, Yhl, Yhm, Yhi, Yhn])
theorem Zdu (r : YR) (h : wR r <= 1048576) : Lp.Sem Tryz.prog (Yht Tryz.f67 1) (Z4v r) := Yi3 (fun k => .i ((k : Int) < (↑(List.map Yhd
 r.patterns).length : Int)) (.x (k : Int) (r.patterns.map Yhd) (Yhk (r.patterns.getD k default)) (.w (.draw [(4, [6, 7]), (5, [4, 14]), (7, [2])]) (.d [.rd]
 (Zb (r.patterns.getD k default)) (.p ((((r.patterns.take k).map Yhd).length + 1) * 80 <= 140737488355328) (.r ((k : Int) + 1) (.g [0, 1, 2, 3, 15] (k + 1)
 [.s (li ((k : Int) + 1)), .o (.arr true 5 ((r.patterns.take k).map Yhd ++ [Yhk (r.patterns.getD k default)]))])))))) (.o 0 [0, 1, 2, 3, 4] [.o (.arr true 5
 ((r.patterns.take k).map Yhd))])) (by
 intro k h; try dsimp only [Yhj, Yhq, Z4v] at h ⊢
 have g := Ynv r
 have g2 := @Yi9 _ wY r.patterns (r.patterns.getD k default)
 with_reducible repeat' (first | apply And.intro | exact zR | (intro) | apply Z1)
 all_goals ((try simp only [std, inj] at *); with_reducible and_intros)
 all_goals try first | with_reducible (first | apply Z1) | (simp only [<- List.map_append]; with_reducible first | apply Z1)
 all_goals try first | exact z | grind [Yi2, Yhl, Yhm, Yhi, Yhn])
theorem Zdv (r : YR) (h : wR r <= 1048576) : Lp.Sem Tryz.prog (Yht Tryz.f67 0) (Z4w r) := Yi3 (fun k => .i ((k : Int) < (↑(List.map Yhd
 r.literals).length : Int)) (.x (k : Int) (r.literals.map Yhd) (Yhk (r.literals.getD k default)) (.w (.draw [(4, [5, 6]), (5, [3, 13]), (7, [2])]) (.d [.rd]
 (Zb (r.literals.getD k default)) (.p ((((r.literals.take k).map Yhd).length + 1) * 80 <= 140737488355328) (.r ((k : Int) + 1) (.g [0, 1, 2, 14] (k + 1) [.s
 (li ((k : Int) + 1)), .o (.arr true 5 ((r.literals.take k).map Yhd ++ [Yhk (r.literals.getD k default)]))])))))) (.o 0 [0, 1, 2, 3] [.o (.arr true 5
 ((r.literals.take k).map Yhd))])) (by
 intro k h; try dsimp only [Yhj, Yhq, Z4w] at h ⊢
 have g := Ynv r
 have g2 := @Yi9 _ wY r.literals (r.literals.getD k default)
 with_reducible repeat' (first | apply And.intro | exact zR | (intro) | apply Z1)
 all_goals ((try simp only [std, inj] at *); with_reducible and_intros)
 all_goals try first | with_reducible (first | apply Z1) | (simp only [<- List.map_append]; with_reducible first | apply Z1)
 all_goals try first | exact z | grind [Yi2, Yhl, Yhm, Yhi, Yhn])
theorem Z6d (r : YR) (h : wR r <= 1048576)  : Z7t r := Yhv Tryz.call67 Tryz.func67 (.z Yhd r.literals (.w (.ghost (.nilbox 2 0 true 5)) (.l (Z4w r)
 (Zdv r h) [0, 1, 2, 3] [.s (li 0), .o (.arr true 5 [])] 0 (.t (.z Yhd r.patterns (.w (.ghost (.nilbox 2 1 true 5)) (.l (Z4v r) (Zdu r h) [0, 1, 2, 3,
 4] [.s (li 0), .o (.arr true 5 [])] 0 (.t (.z Yhd r.templates (.w (.ghost (.nilbox 2 2 true 5)) (.l (Z4u r) (Zdt r h) [1, 2, 3, 4, 5] [.s (li 0), .o (.arr
 true 5 [])] 0 (.t (.f [2, 3, 4] [.arr true 5 (r.literals.map Yhd), .arr true 5 (r.patterns.map Yhd), .arr true 5 (r.templates.map Yhd)] (.sv
 (.agg [.ref 0, .ref 1, .ref 2]))) .q)))) .q)))) .q)))) (by
 dsimp only [Yhj, Z7t, Yhq, Z4w, Z4v, Z4u]
 have g := Ynv r
 with_reducible repeat' (first | apply And.intro | exact zR | (intro) | apply Z1)
 all_goals ((try simp only [std, inj] at *); with_reducible and_intros)
 all_goals try with_reducible first | apply Z1
 all_goals (try exact zG))
abbrev Zu (x : YE) : Ct := ⟨65, [], [Ykb x], Yue x, .sv (Ypn x 0)⟩
def Z4x (x : YE) : Lp Nat := .mk 32 0 (fun x_1 => [(2, .one (.ptr 0 0)), (3, .one (.ptr 1 0)), (17, ll (x.macros.map Yhp)), (18, li (↑(List.map Yhp
 x.macros).length : Int)), (19, hs x_1 0)]) (fun x_1 => [.box [.val (.lit (.slice none 0 0)), .val (.lit (.slice none 0 0)), vI 0, vI 0, vI 0], .box
 [.ref 2, .ref 3, vI x.scope, vI x.vari, vI x.steps], .arr true 4 (x.bindings.map Yhg), ho x_1 1]) (fun k => [.s (li (k : Int)), .o (.arr true 3 (List.map Yhp
 (x.macros.take k)))]) (fun k => k <= x.macros.length /\ x.macros.length <= 9223372036854775807) (fun k => x.macros.length - k) [.mk True (.exit 0) (fun x => [(2, .one (.ptr
 0 0)), (3, .one (.ptr 1 0))]) (fun x_1 => [.box [.val (.lit (.slice none 0 0)), .val (.lit (.slice none 0 0)), vI 0, vI 0, vI 0], .box [.ref 2,
 .ref 3, vI x.scope, vI x.vari, vI x.steps], .arr true 4 (x.bindings.map Yhg), ho x_1 0]) [.o (.arr true 3 (x.macros.map Yhp))]]
theorem Zdw (x : YE) (h : wX x <= 1048576) : Lp.Sem Tryz.prog (Yht Tryz.f65 0) (Z4x x) := Yi3 (fun k => .i ((k : Int) < (↑(List.map Yhp
 x.macros).length : Int)) (.x (k : Int) (x.macros.map Yhp) (Yiv (x.macros.getD k default)) (.w (.draw [(4, [5, 6, 7]), (5, [3, 13]), (7, [1])]) (.d [.rd] (Z7t
 (x.macros.getD k default)) (.p ((((x.macros.take k).map Yhp).length + 1) * 72 <= 140737488355328) (.r ((k : Int) + 1) (.g [0, 1, 2, 14] (k + 1) [.s (li ((k : Int) +
 1)), .o (.arr true 3 ((x.macros.take k).map Yhp ++ [Yiv (x.macros.getD k default)]))])))))) (.o 0 [0, 1, 2, 3] [.o (.arr true 3 ((List.take k
 x.macros).map Yhp))])) (by
 intro k h; try dsimp only [Yhj, Yhq, Z4x] at h ⊢
 have g := Ymg x
 have g2 := @Yi9 _ wR x.macros (x.macros.getD k default)
 with_reducible repeat' (first | apply And.intro | exact zR | (intro) | apply Z9 | apply Z6d)
 all_goals ((try simp only [std, inj] at *); with_reducible and_intros)
 all_goals try first | with_reducible (first | apply Z9 | apply Z6d) | (simp only [<- List.map_append]; with_reducible first | apply Z9 | apply Z6d)
 all_goals try first | exact z | grind [Yi2, Yhl, Yhm, Yhi, Yhn])
theorem Zcy (x : YE) (h : wX x <= 1048576)  : Zu x := Yhv Tryz.call65 Tryz.func65 (.w (.draw [(11, [10])]) (.d [.rd] (Z44 x.bindings) (.z Yhp x.macros
 (.w (.ghost (.nilbox 10 1 true 3)) (.l (Z4x x) (Zdw x h) [1, 10, 2, 11] [.s (li 0), .o (.arr true 3 [])] 0 (.t (.f [2, 3] [.arr true 4 (List.map Yhg
 x.bindings), .arr true 3 (x.macros.map Yhp)] (.sv (.agg [.ref 0, .ref 1, vI x.scope, vI x.vari, vI x.steps]))) .q)))))) (by
 dsimp only [Yhj, Zu, Yhq, Z4x]
 have g := Ymg x
 with_reducible repeat' (first | apply And.intro | exact zR | (intro) | apply Z9 | apply Z6d)
 all_goals ((try simp only [std, inj] at *); with_reducible and_intros)
 all_goals try with_reducible first | apply Z9 | apply Z6d
 all_goals (try exact zG))
abbrev Z5o (x : YE) : Ct := ⟨70, [], [Ykb x], Yue x, .sv (Ypn x 0)⟩
def Z4y (x : YE) : Lp Nat := .mk 32 0 (fun x_1 => [(2, .one (.ptr 0 0)), (3, .one (.ptr 1 0)), (17, ll (x.macros.map Yhp)), (18, li (↑(List.map Yhp
 x.macros).length : Int)), (19, hs x_1 0)]) (fun x_1 => [.box [.val (.lit (.slice none 0 0)), .val (.lit (.slice none 0 0)), vI 0, vI 0, vI 0], .box
 [.ref 2, .ref 3, vI x.scope, vI x.vari, vI x.steps], .arr true 4 (x.bindings.map Yhg), ho x_1 1]) (fun k => [.s (li (k : Int)), .o (.arr true 3 (List.map Yhp
 (x.macros.take k)))]) (fun k => k <= x.macros.length /\ x.macros.length <= 9223372036854775807) (fun k => x.macros.length - k) [.mk True (.exit 0) (fun x => [(2, .one (.ptr
 0 0)), (3, .one (.ptr 1 0))]) (fun x_1 => [.box [.val (.lit (.slice none 0 0)), .val (.lit (.slice none 0 0)), vI 0, vI 0, vI 0], .box [.ref 2,
 .ref 3, vI x.scope, vI x.vari, vI x.steps], .arr true 4 (x.bindings.map Yhg), ho x_1 0]) [.o (.arr true 3 (x.macros.map Yhp))]]
theorem Zdx (x : YE) (h : wX x <= 1048576) : Lp.Sem Tryz.prog (Yht Tryz.f70 0) (Z4y x) := Yi3 (fun k => .i ((k : Int) < (↑(List.map Yhp
 x.macros).length : Int)) (.x (k : Int) (x.macros.map Yhp) (Yiv (x.macros.getD k default)) (.w (.draw [(4, [5, 6, 7]), (5, [3, 13]), (7, [1])]) (.d [.rd] (Z7s
 (x.macros.getD k default)) (.p ((((x.macros.take k).map Yhp).length + 1) * 72 <= 140737488355328) (.r ((k : Int) + 1) (.g [0, 1, 2, 14] (k + 1) [.s (li ((k : Int) +
 1)), .o (.arr true 3 ((x.macros.take k).map Yhp ++ [Yiv (x.macros.getD k default)]))])))))) (.o 0 [0, 1, 2, 3] [.o (.arr true 3 ((List.take k
 x.macros).map Yhp))])) (by
 intro k h; try dsimp only [Yhj, Yhq, Z4y] at h ⊢
 have g := Ymg x
 have g2 := @Yi9 _ wR x.macros (x.macros.getD k default)
 with_reducible repeat' (first | apply And.intro | exact zR | (intro) | apply Z6b | apply Z6c)
 all_goals ((try simp only [std, inj] at *); with_reducible and_intros)
 all_goals try first | with_reducible (first | apply Z6b | apply Z6c) | (simp only [<- List.map_append]; with_reducible first | apply Z6b | apply Z6c)
 all_goals try first | exact z | grind [Yi2, Yhl, Yhm, Yhi, Yhn])
theorem Zcz (x : YE) (h : wX x <= 1048576)  : Z5o x := Yhv Tryz.call70 Tryz.func70 (.w (.draw [(11, [10])]) (.d [.rd] (Z7r x.bindings) (.z Yhp x.macros
 (.w (.ghost (.nilbox 10 1 true 3)) (.l (Z4y x) (Zdx x h) [1, 10, 2, 11] [.s (li 0), .o (.arr true 3 [])] 0 (.t (.f [2, 3] [.arr true 4 (List.map Yhg
 x.bindings), .arr true 3 (x.macros.map Yhp)] (.sv (.agg [.ref 0, .ref 1, vI x.scope, vI x.vari, vI x.steps]))) .q)))))) (by
 dsimp only [Yhj, Z5o, Yhq, Z4y]
 have g := Ymg x
 with_reducible repeat' (first | apply And.intro | exact zR | (intro) | apply Z6b | apply Z6c)
 all_goals ((try simp only [std, inj] at *); with_reducible and_intros)
 all_goals try with_reducible first | apply Z6b | apply Z6c
 all_goals (try exact zG))
def nxR (s kind : Int) : Int := s + 1 + (kind - s - 1) % 3
def nxt (s kind : Int) : Int := if nxR s kind <= 99999 then nxR s kind else 0
theorem Y12u {s kind n : Int} (h0 : 0 <= s) (hk : 1 <= kind /\ kind <= 3) (hn : s < n /\ n <= nxR s kind /\ n <= 99999) : (Ymh n = kind ↔ n = nxR s kind) := by
 unfold Ymh nxR at *
 split
 ·split <;> omega
 ·omega
theorem Ynm {s kind : Int} : s < nxR s kind /\ nxR s kind <= s + 3 := by unfold nxR; omega
def nxB (s kind : Int) : Bool := decide (nxR s kind <= 99999)
def nxS (s kind : Int) : Int := if nxR s kind <= 99999 then nxR s kind else s
def cdF (c e : Int) : Int := if c = 0 then e else c
abbrev stO (x : YE) (z c : Int) : List Ob := [.box [.ref 1, .ref 2, vI x.scope, vI x.vari, vI x.steps, vI z, vI c], .arr true 4 (x.bindings.map Yhg), .arr true 3 (x.macros.map Yhp)]
abbrev stI (x : YE) (z : Int) : List Ob := [.box [.ref 1, .ref 2, vI x.scope, vI x.vari, vI x.steps, vI z], .arr true 4 (x.bindings.map Yhg), .arr true 3 (x.macros.map Yhp)]
abbrev Zbm (x : YE) (z : Int) (c : Int) (e : Int) : Ct := ⟨139, stO x z c, [.one (.ptr 0 0), li e], stO x z (cdF c e), .sv (.agg [vI 0, vI 0, .val (.lit (.slice none 0 0)), vI 0, vI 0, vS (mkS []), .val (.lit (.slice none 0 0)), .val (.lit (.slice none 0 0))])⟩
theorem Zas (x : YE) (z c e : Int)  : Zbm x z c e := Yhv Tryz.call139 Tryz.func139 (.i (c = 0) (.f [] [.box [.ref 1, .ref 2, vI x.scope, vI x.vari, vI x.steps,
 vI z, vI e], .arr true 4 (x.bindings.map Yhg), .arr true 3 (x.macros.map Yhp)] (.sv (.agg [vI 0, vI 0, .val (.lit (.slice none 0 0)), vI 0, vI
 0, vS (ByteArray.mk #[]), .val (.lit (.slice none 0 0)), .val (.lit (.slice none 0 0))]))) (.f [] [.box [.ref 1, .ref 2, vI x.scope, vI x.vari, vI
 x.steps, vI z, vI c], .arr true 4 (x.bindings.map Yhg), .arr true 3 (x.macros.map Yhp)] (.sv (.agg [vI 0, vI 0, .val (.lit (.slice none 0 0)),
 vI 0, vI 0, vS (ByteArray.mk #[]), .val (.lit (.slice none 0 0)), .val (.lit (.slice none 0 0))])))) (by
 dsimp only [Yhj, Zbm]
 with_reducible repeat' (first | apply And.intro | exact zR | (intro))
 all_goals ((try simp only [std, inj] at *); with_reducible and_intros)
 all_goals try first | exact z | grind [cdF, Yhl, Yhm, Yhi])
abbrev Z5p (x : YE) (z : Int) (c : Int) (kind : Int) : Ct := ⟨198, stO x z c, [.one (.ptr 0 0), li kind], [.box [.ref 1, .ref 2, vI (nxS x.scope kind), vI x.vari, vI x.steps, vI z, vI (if nxR x.scope kind <= 99999 then c else cdF c 8)], .arr true 4 (x.bindings.map Yhg), .arr true 3 (x.macros.map Yhp)], .sv (li (nxt x.scope kind))⟩
def Z4z (x : YE) (z : Int) (c : Int) (kind : Int) : Lp (Int) := .mk 32 3 (fun x => [(0, .one (.ptr 0 0)), (1, li kind), (5, hs x 0)]) (fun x_1 => [.box [.ref
 1, .ref 2, vI x.scope, vI x.vari, vI x.steps, vI z, vI c], .arr true 4 (x.bindings.map Yhg), .arr true 3 (x.macros.map Yhp)]) (fun k => [.s (li k)]) (fun k
 => x.scope + 1 <= k /\ k <= nxR x.scope kind /\ k <= 100000) (fun k => (nxR x.scope kind - k).toNat) [.mk True (.exit 0) (fun x => [(0, .one (.ptr 0 0)), (5, hs x 0)]) (fun x_1 =>
 [.box [.ref 1, .ref 2, vI x.scope, vI x.vari, vI x.steps, vI z, vI c], .arr true 4 (x.bindings.map Yhg), .arr true 3 (x.macros.map Yhp)]) [.s (li (if
 nxR x.scope kind <= 99999 then nxR x.scope kind else 100000))]]
theorem Zdy (x : YE) (z : Int) (c : Int) (kind : Int) (h : 0 <= x.scope /\ x.scope <= 99999 /\ 1 <= kind /\ kind <= 3) : Lp.Sem Tryz.prog (Yht Tryz.f198 0) (Z4z x
 z c kind) := Yi3 (fun k => .i (k <= 99999) (.c [.rd] (Ze4 k) (.i (Ymh k ≠ kind) (.r (k + 1) (.g [0, 1, 2] (k + 1) [.s (li (k + 1))])) (.o 0 [0, 1, 2] [.s (li k)]))) (.y
 false (.o 0 [0, 1, 2] [.s (li k)]))) (by
 intro k h; try dsimp only [Yhj, Yhq, Z4z] at h ⊢
 have g1 := @Y12u x.scope kind k
 have g2 := @Ynm x.scope kind
 exact zV)
theorem Zd0 (x : YE) (z c kind : Int) (h : 0 <= x.scope /\ x.scope <= 99999 /\ 1 <= kind /\ kind <= 3)  : Z5p x z c kind := Yhv Tryz.call198 Tryz.func198 (.r (x.scope +
 1) (.l (Z4z x z c kind) (Zdy x z c kind h) [0, 1, 2] [.s (li (x.scope + 1))] (x.scope + 1) (.t (.i (99999 < if nxR x.scope kind <= 99999 then nxR x.scope kind else
 100000) (.c [.ptr, .rd] (Zas x z c 8) (.f [] [.box [.ref 1, .ref 2, vI x.scope, vI x.vari, vI x.steps, vI z, vI (cdF c 8)], .arr true 4 (x.bindings.map Yhg),
 .arr true 3 (x.macros.map Yhp)] (.sv (li 0)))) (.f [] [.box [.ref 1, .ref 2, vI (if nxR x.scope kind <= 99999 then nxR x.scope kind else 100000), vI x.vari, vI
 x.steps, vI z, vI c], .arr true 4 (x.bindings.map Yhg), .arr true 3 (x.macros.map Yhp)] (.sv (li (if nxR x.scope kind <= 99999 then nxR x.scope kind else
 100000))))) .q))) (by
 dsimp only [Yhj, Z5p, Yhq, Z4z]
 have g2 := @Ynm x.scope kind
 with_reducible repeat' (first | apply And.intro | exact zR | (intro))
 all_goals ((try simp only [std, inj] at *); with_reducible and_intros)
 all_goals try first | exact z | grind [nxt, nxS, Yhl, Yhm, Yhi])
abbrev Z8d (s : Int) (kind : Int) : Ct := ⟨267, [], [li s, li kind], [], .sv (li (nxt s kind))⟩
def Z5q (s : Int) (kind : Int) : Lp (Int) := .mk 23 0 (fun x => [(0, li s), (1, li kind), (5, hs x 0)]) (fun x => []) (fun k => [.s (li k)]) (fun k => s + 1 <= k /\ k <= nxR s
 kind /\ k <= 100000) (fun k => (nxR s kind - k).toNat) [.mk (nxB s kind = false) (.exit 0) (fun x => []) (fun x => []) [], .mk (nxB s kind = true) .ret (fun x => [(4, hs x 0)]) (fun
 x => []) [.s (li (nxR s kind))]]
theorem Zf1 (s : Int) (kind : Int) (h : 0 <= s /\ s <= 99999 /\ 1 <= kind /\ kind <= 3) : Lp.Sem Tryz.prog (Yht Tryz.f267 0) (Z5q s kind) := Yi3 (fun k => .i (k <= 99999)
 (.r (s + 3) (.i (k <= s + 3) (.c [.rd] (Zal k) (.i (Ymh k = kind) (.o 1 [] [.s (li k)]) (.r (k + 1) (.g [] (k + 1) [.s (li (k + 1))])))) (.o 0 [] []))) (.y false (.o 0 []
 []))) (by
 intro k h; try dsimp only [Yhj, Yhq, Z5q] at h ⊢
 have g1 := @Y12u s kind k
 have g2 := @Ynm s kind
 have g3 : nxR s kind <= 99999 -> nxB s kind = true := fun h => decide_eq_true h
 have g4 : ¬ nxR s kind <= 99999 -> nxB s kind = false := fun h => decide_eq_false h
 with_reducible repeat' (first | apply And.intro | exact zR | (intro))
 all_goals ((try simp only [std, inj] at *); with_reducible and_intros)
 all_goals try first | exact z
 all_goals (try first | exact g3 (by omega) | exact g4 (by omega))
 all_goals grind)
theorem Zea (s kind : Int) (h : 0 <= s /\ s <= 99999 /\ 1 <= kind /\ kind <= 3)  : Z8d s kind := Yhv Tryz.call267 Tryz.func267 (.r (s + 1) (.l (Z5q s kind) (Zf1 s
 kind h) [] [.s (li (s + 1))] (s + 1) (.t (.s (li 0)) (.t (.s (li (nxR s kind))) .q)))) (by
 dsimp only [Yhj, Z8d, Yhq, Z5q]
 have g2 := @Ynm s kind
 have g3 : nxB s kind = true -> nxt s kind = nxR s kind := fun h => if_pos (of_decide_eq_true h)
 have g4 : nxB s kind = false -> nxt s kind = 0 := fun h => if_neg (of_decide_eq_false h)
 with_reducible repeat' (first | apply And.intro | exact zR | (intro))
 all_goals ((try simp only [std, inj] at *); with_reducible and_intros)
 all_goals try first | exact z
 all_goals (try first | exact (g3 (by assumption)).symm | exact (g4 (by assumption)).symm))
theorem Ywl {x : YE} (h : Ym2 x = true) : 0 <= x.scope /\ x.scope <= 99999 /\ 0 <= x.vari /\ x.vari <= 99999 /\ 0 <= x.steps /\ x.steps <= 200 /\ (x.macros.length : Int) <= 200 /\ (x.bindings.length : Int) <= 1000 := by
 simp only [Ym2, Yrz, Bool.and_eq_true, decide_eq_true_eq] at h
 omega
set_option maxHeartbeats 4000000
abbrev Zd1 (L : List Int) (n : Int) : Ct := ⟨158, [], [ll (L.map Yhh), li n], [], .sv (lb (decide (n ∈ L)))⟩
def Z6m (L : List Int) (n : Int) : Lp Nat := .mk 17 0 (fun x => [(1, li n), (7, ll (L.map Yhh)), (8, li (↑(L.map Yhh).length : Int)), (9, hs x 0)]) (fun x => [])
 (fun k => [.s (li (k : Int))]) (fun k => k <= L.length /\ L.length <= 9223372036854775807 /\ decide (n ∈ L.take k) = false) (fun k => L.length - k) [.mk (decide (n ∈ L) = false)
 (.exit 0) (fun x => []) (fun x => []) [], .mk (decide (n ∈ L) = true) .ret (fun x => [(4, hs x 0)]) (fun x => []) [.s (lb true)]]
theorem Zfw (L : List Int) (n : Int) : Lp.Sem Tryz.prog (Yht Tryz.f158 0) (Z6m L n) := Yi3 (fun k => .i ((k : Int) < (↑(L.map Yhh).length : Int)) (.x (↑k :
 Int) (L.map Yhh) [cI (L.getD k 0)] (.i (L.getD k 0 = n) (.o 1 [] [.s (lb true)]) (.r ((k : Int) + 1) (.g [] (k + 1) [.s (li ((k : Int) + 1))])))) (.o 0 [] [])) (by
 intro k h; try dsimp only [Yhj, Yhq, Z6m] at h ⊢
 with_reducible repeat' (first | apply And.intro | exact zR | (intro))
 all_goals ((try simp only [std, inj] at *); with_reducible and_intros)
 all_goals try first | exact z | grind [Yi2, Yhn, Yhl, Yhm, Yhi])
theorem Zfx (L : List Int) (n : Int)  : Zd1 L n := Yhv Tryz.call158 Tryz.func158 (.z Yhh L (.l (Z6m L n) (Zfw L n) [] [.s (li 0)] 0 (.t (.s (lb false)) (.t (.s
 (lb true)) .q)))) (by
 dsimp only [Yhj, Zd1, Yhq, Z6m]
 exact zV)
abbrev Zbn (L : List Int) (n : Int) : Ct := ⟨306, [], [ll (L.map Yhh), li n], [], .sv (lb (decide (n ∈ L)))⟩
def Z5r (L : List Int) (n : Int) : Lp Nat := .mk 17 0 (fun x => [(1, li n), (7, ll (L.map Yhh)), (8, li (↑(L.map Yhh).length : Int)), (9, hs x 0)]) (fun x => [])
 (fun k => [.s (li (k : Int))]) (fun k => k <= L.length /\ L.length <= 9223372036854775807 /\ decide (n ∈ L.take k) = false) (fun k => L.length - k) [.mk (decide (n ∈ L) = false)
 (.exit 0) (fun x => []) (fun x => []) [], .mk (decide (n ∈ L) = true) .ret (fun x => [(4, hs x 0)]) (fun x => []) [.s (lb true)]]
theorem Zf2 (L : List Int) (n : Int) : Lp.Sem Tryz.prog (Yht Tryz.f306 0) (Z5r L n) := Yi3 (fun k => .i ((k : Int) < (↑(L.map Yhh).length : Int)) (.x (↑k :
 Int) (L.map Yhh) [cI (L.getD k 0)] (.i (L.getD k 0 = n) (.o 1 [] [.s (lb true)]) (.r ((k : Int) + 1) (.g [] (k + 1) [.s (li ((k : Int) + 1))])))) (.o 0 [] [])) (by
 intro k h; try dsimp only [Yhj, Yhq, Z5r] at h ⊢
 with_reducible repeat' (first | apply And.intro | exact zR | (intro))
 all_goals ((try simp only [std, inj] at *); with_reducible and_intros)
 all_goals try first | exact z | grind [Yi2, Yhn, Yhl, Yhm, Yhi])
theorem Zh5 (L : List Int) (n : Int)  : Zbn L n := Yhv Tryz.call306 Tryz.func306 (.z Yhh L (.l (Z5r L n) (Zf2 L n) [] [.s (li 0)] 0 (.t (.s (lb false)) (.t
 (.s (lb true)) .q)))) (by
 dsimp only [Yhj, Zbn, Yhq, Z5r]
 exact zV)
def Yku (A B : List Int) : Bool := A.all fun n => decide (n ∈ B)
abbrev Zd2 (A : List Int) (B : List Int) : Ct := ⟨261, [], [ll (A.map Yhh), ll (B.map Yhh)], [], .sv (lb (Yku A B))⟩
def Z6n (A : List Int) (B : List Int) : Lp Nat := .mk 18 0 (fun x => [(1, ll (B.map Yhh)), (7, ll (A.map Yhh)), (8, li (↑(A.map Yhh).length : Int)), (9, hs
 x 0)]) (fun x => []) (fun k => [.s (li (k : Int))]) (fun k => k <= A.length /\ A.length <= 9223372036854775807 /\ Yku (A.take k) B = true) (fun k => A.length - k) [.mk (Yku A
 B = true) (.exit 0) (fun x => []) (fun x => []) [], .mk (Yku A B = false) .ret (fun x => [(4, hs x 0)]) (fun x => []) [.s (lb false)]]
theorem Zfy (A : List Int) (B : List Int) : Lp.Sem Tryz.prog (Yht Tryz.f261 0) (Z6n A B) := Yi3 (fun k => .i ((k : Int) < (↑(A.map Yhh).length : Int)) (.x
 (k : Int) (A.map Yhh) [cI (A.getD k 0)] (.c [.rd, .rd] (Zfx B (A.getD k 0)) (.b (!decide (A.getD k 0 ∈ B)) (.o 1 [] [.s (lb false)]) (.r ((k : Int) + 1) (.g [] (k + 1)
 [.s (li ((k : Int) + 1))]))))) (.o 0 [] [])) (by
 intro k h; try dsimp only [Yhj, Yhq, Z6n] at h ⊢
 with_reducible repeat' (first | apply And.intro | exact zR | (intro))
 all_goals ((try simp only [std, inj] at *); with_reducible and_intros)
 all_goals try first | exact z | grind [Yi2, Yhn, Yku, Yhl, Yhm, Yhi])
theorem Zd3 (A B : List Int)  : Zd2 A B := Yhv Tryz.call261 Tryz.func261 (.z Yhh A (.l (Z6n A B) (Zfy A B) [] [.s (li 0)] 0 (.t (.s (lb true)) (.t (.s (lb
 false)) .q)))) (by
 dsimp only [Yhj, Zd2, Yhq, Z6n]
 with_reducible repeat' (first | apply And.intro | exact zR | (intro))
 all_goals ((try simp only [std, inj] at *); with_reducible and_intros)
 all_goals try first | exact z | grind [Yku, Yhl, Yhm, Yhi])
abbrev Zd4 (A : List Int) (B : List Int) : Ct := ⟨266, [], [ll (A.map Yhh), ll (B.map Yhh)], [], .sv (lb (Yku A B))⟩
def Z6o (A : List Int) (B : List Int) : Lp Nat := .mk 18 0 (fun x => [(1, ll (B.map Yhh)), (7, ll (A.map Yhh)), (8, li (↑(A.map Yhh).length : Int)), (9, hs
 x 0)]) (fun x => []) (fun k => [.s (li (k : Int))]) (fun k => k <= A.length /\ A.length <= 9223372036854775807 /\ Yku (A.take k) B = true) (fun k => A.length - k) [.mk (Yku A
 B = true) (.exit 0) (fun x => []) (fun x => []) [], .mk (Yku A B = false) .ret (fun x => [(4, hs x 0)]) (fun x => []) [.s (lb false)]]
theorem Zfz (A : List Int) (B : List Int) : Lp.Sem Tryz.prog (Yht Tryz.f266 0) (Z6o A B) := Yi3 (fun k => .i ((k : Int) < (↑(A.map Yhh).length : Int)) (.x
 (k : Int) (A.map Yhh) [cI (A.getD k 0)] (.c [.rd, .rd] (Zh5 B (A.getD k 0)) (.b (!decide (A.getD k 0 ∈ B)) (.o 1 [] [.s (lb false)]) (.r ((k : Int) + 1) (.g [] (k + 1)
 [.s (li ((k : Int) + 1))]))))) (.o 0 [] [])) (by
 intro k h; try dsimp only [Yhj, Yhq, Z6o] at h ⊢
 with_reducible repeat' (first | apply And.intro | exact zR | (intro))
 all_goals ((try simp only [std, inj] at *); with_reducible and_intros)
 all_goals try first | exact z | grind [Yi2, Yhn, Yku, Yhl, Yhm, Yhi])
theorem Zd5 (A B : List Int)  : Zd4 A B := Yhv Tryz.call266 Tryz.func266 (.z Yhh A (.l (Z6o A B) (Zfz A B) [] [.s (li 0)] 0 (.t (.s (lb true)) (.t (.s (lb
 false)) .q)))) (by
 dsimp only [Yhj, Zd4, Yhq, Z6o]
 with_reducible repeat' (first | apply And.intro | exact zR | (intro))
 all_goals ((try simp only [std, inj] at *); with_reducible and_intros)
 all_goals try first | exact z | grind [Yku, Yhl, Yhm, Yhi])
def Yoh (t : ByteArray) (s : List Int) (b : YB) : Bool := decide (b.text = t) && Yku b.scopes s
def cnd (L : List YB) (t : ByteArray) (s : List Int) : List YB := L.filter (Yoh t s)
theorem Y14i {L : List YB} {t : ByteArray} {s : List Int} {k : Nat} (h : k < L.length) : cnd (L.take (k + 1)) t s = if Yoh t s (L.getD k default) = true then cnd (L.take k) t s ++ [L.getD k default] else cnd (L.take k) t s := by
 unfold cnd; rw [Yi2 h, List.filter_append]
 by_cases e : Yoh t s (L.getD k default) = true
 ·rw [if_pos e, List.filter_cons_of_pos e]; rfl
 ·rw [if_neg e, List.filter_cons_of_neg e]; simp
theorem Y1ib (L : List YB) (t : ByteArray) (s : List Int) (k : Nat) : (cnd (L.take k) t s).length <= k := by
 have h1 := List.length_filter_le (Yoh t s) (L.take k)
 have h2 : (L.take k).length <= k := by rw [List.length_take]; exact Nat.min_le_left _ _
 unfold cnd; omega
abbrev Z6p (L : List YB) (y : YS) : Ct := ⟨260, [], [ll (L.map Yhg), Yhz y], [], .sv (ll ((cnd L y.text y.scopes).map Yhg))⟩
def Z5s (L : List YB) (y : YS) : Lp Nat := .mk 33 0 (fun x => [(3, .one (.ptr 0 0)), (5, .one (.ref 1)), (9, ll (L.map Yhg)), (10, li (↑(List.map
 Yhg L).length : Int)), (11, hs x 0)]) (fun x => [.box (vals (Yhk y)), ho x 1]) (fun k => [.s (li (k : Int)), .o (.arr false 4 ((cnd (L.take k)
 y.text y.scopes).map Yhg))]) (fun k => k <= L.length /\ L.length <= 9223372036854775807) (fun k => L.length - k) [.mk True (.exit 0) (fun x => [(5, .one (.ref 0))]) (fun x => [ho x 0])
 [.o (.arr false 4 ((cnd L y.text y.scopes).map Yhg))]]
theorem Zf3 (L : List YB) (y : YS) (h : L.length <= 1048577) : Lp.Sem Tryz.prog (Yht Tryz.f260 0) (Z5s L y) := Yi3 (fun k => .i ((k : Int) < (↑(List.map
 Yhg L).length : Int)) (.x (k : Int) (L.map Yhg) (Yhy (L.getD k default)) (.i ((L.getD k default).text.data.toList = y.text.data.toList) (.c [.rd, .rd] (Zd3
 (L.getD k default).scopes y.scopes) (.b (Yku (L.getD k default).scopes y.scopes) (.p ((((cnd (L.take k) y.text y.scopes).map Yhg).length + 1) * 56 <=
 140737488355328) (.r ((k : Int) + 1) (.g [0, 4] (k + 1) [.s (li ((k : Int) + 1)), .o (.arr false 4 ((cnd (L.take k) y.text y.scopes).map Yhg ++ [Yhy
 (L.getD k default)]))]))) (.r ((k : Int) + 1) (.g [0, 1] (k + 1) [.s (li ((k : Int) + 1)), .o (.arr false 4 ((cnd (L.take k) y.text y.scopes).map Yhg))])))) (.y
 false (.r ((k : Int) + 1) (.g [0, 1] (k + 1) [.s (li ((k : Int) + 1)), .o (.arr false 4 ((cnd (L.take k) y.text y.scopes).map Yhg))]))))) (.o 0 [1] [.o (.arr
 false 4 ((cnd (L.take k) y.text y.scopes).map Yhg))])) (by
 intro k h; try dsimp only [Yhj, Yhq, Z5s] at h ⊢
 have g1 := @Y14i L y.text y.scopes k
 have g2 := Y1ib L y.text y.scopes k
 have g3 : L.length <= k -> L.take k = L := fun h => List.take_of_length_le h
 with_reducible repeat' (first | apply And.intro | exact zR | (intro))
 all_goals ((try simp only [std, inj] at *); with_reducible and_intros)
 all_goals try first | exact z | grind [Yoh, Ykk, Yhl, Yhm, Yhi])
theorem Z14 (L : List YB) (y : YS) (h : L.length <= 1048577)  : Z6p L y := Yhv Tryz.call260 Tryz.func260 (.w (.bool true) (.z Yhg L (.l (Z5s L y)
 (Zf3 L y h) [0, 1] [.s (li 0), .o (.arr false 4 [])] 0 (.t (.w (.ghost (.lock 0)) (.s (ll ((cnd L y.text y.scopes).map Yhg)))) .q)))) (by
 dsimp only [Yhj, Z6p, Yhq, Z5s]
 have g1 : cnd (L.take 0) y.text y.scopes = [] := rfl
 exact zV)
def Ykz (a b : YB) : YB := if a.scopes.length < b.scopes.length then b else a
def Yit (C : List YB) : YB := C.foldl Ykz (C.getD 0 default)
theorem Y1es (x : YB) : Yit [x] = x := by simp [Yit, Ykz]
theorem Y11l {C : List YB} (x : YB) (h : C ≠ []) : Yit (C ++ [x]) = Ykz (Yit C) x := by
 cases C with
 | nil => exact absurd rfl h
 | cons a r => simp only [Yit, List.foldl_append]; rfl
def amb (C : List YB) : Bool := C.all fun b => Yku b.scopes (Yit C).scopes
def rsC (L : List YB) (t : ByteArray) (s : List Int) : Int := if cnd L t s = [] then 0 else if amb (cnd L t s) = true then 1 else 2
def rsB (L : List YB) (t : ByteArray) (s : List Int) : YB := if rsC L t s = 1 then Yit (cnd L t s) else ⟨mkS [], [], 0, 0⟩
theorem Y1e1 {C : List YB} : ∀ (a : YB), C.foldl Ykz a = a ∨ C.foldl Ykz a ∈ C := by
 induction C with
 | nil => intro a; exact .inl rfl
 | cons x r ih =>
  intro a
  rw [List.foldl_cons]
  rcases ih (Ykz a x) with h | h
  ·rw [h]; unfold Ykz; split
   ·exact .inr List.mem_cons_self
   ·exact .inl rfl
  ·exact .inr (List.mem_cons_of_mem _ h)
theorem Ywp {C : List YB} (h : C ≠ []) : Yit C ∈ C := by
 cases C with
 | nil => exact absurd rfl h
 | cons a r =>
  rcases Y1e1 (C := a :: r) ((a :: r).getD 0 default) with h | h
  ·unfold Yit; rw [h]; exact List.mem_cons_self
  ·exact h
theorem Y1ln (L : List YB) (t : ByteArray) (s : List Int) : Yhe wB (cnd L t s) <= Yhe wB L := by
 induction L with
 | nil => exact Nat.le_refl _
 | cons x r ih =>
  unfold cnd at ih ⊢
  by_cases e : Yoh t s x = true
  ·rw [List.filter_cons_of_pos e]; simp only [Yhe]; omega
  ·rw [List.filter_cons_of_neg e]; simp only [Yhe]; omega
theorem Y16a {L : List YB} {t : ByteArray} {s : List Int} (h : cnd L t s ≠ []) : wB (Yit (cnd L t s)) <= Yhe wB L := by
 have h1 := Yi9 wB (Ywp h)
 have h2 := Y1ln L t s
 omega
theorem Y14n {C : List YB} {k : Nat} (hk : k < C.length) (h : Yku (C.getD k default).scopes (Yit C).scopes = false) : amb C = false := by
 unfold amb; rw [List.all_eq_false]; exact ⟨_, Yhn hk, by rw [h]; decide⟩
def Ysy (C : List YB) (k : Nat) : Bool := (C.take k).all fun b => Yku b.scopes (Yit C).scopes
theorem Y11g {C : List YB} {k : Nat} (hk : k < C.length) (h0 : Ysy C k = true) (h : Yku (C.getD k default).scopes (Yit C).scopes = true) : Ysy C (k + 1) = true := by
 unfold Ysy at *; rw [Yi2 hk, List.all_append, h0]; simpa using h
theorem Y161 {C : List YB} {k : Nat} (hk : C.length <= k) (h0 : Ysy C k = true) : amb C = true := by
 unfold Ysy at h0; rwa [List.take_of_length_le hk] at h0
abbrev Z7u (L : List YB) (y : YS) : Ct := ⟨197, [], [ll (L.map Yhg), Yhz y], [], .tup [Ym7 (rsB L y.text y.scopes), li (rsC L y.text y.scopes)]⟩
def Z6q (L : List YB) (y : YS) : Lp Nat := .mk 56 0 (fun x => [(4, .one (.ptr 0 0)), (7, .one (.ptr 1 0)), (37, ll ((cnd L y.text
 y.scopes).map Yhg)), (38, li (↑((cnd L y.text y.scopes).map Yhg).length : Int)), (39, hs x 0)]) (fun x => [.box [vS (ByteArray.mk #[]), .val (.lit (.slice none 0
 0)), vI 0, vI 0], .box (vals (Yhy (Yit (cnd L y.text y.scopes))))]) (fun k => [.s (li (k : Int))]) (fun k => k <= (cnd L y.text y.scopes).length /\ (cnd L y.text
 y.scopes).length <= 9223372036854775807 /\ 0 < (cnd L y.text y.scopes).length /\ Ysy (cnd L y.text y.scopes) k = true) (fun k => (cnd L y.text y.scopes).length - k) [.mk (amb (cnd L
 y.text y.scopes) = true) (.exit 2) (fun x => [(4, .one (.ptr 0 0)), (7, .one (.ptr 1 0))]) (fun x => [.box [vS (ByteArray.mk #[]), .val (.lit (.slice none 0
 0)), vI 0, vI 0], .box (vals (Yhy (Yit (cnd L y.text y.scopes))))]) [], .mk (amb (cnd L y.text y.scopes) = false) .ret (fun x => [(4, .one (.ptr 0 0)), (5, hs x 1)])
 (fun x => [ho x 0]) [.o (.box [vS (mkS []), .val (.lit (.slice none 0 0)), vI 0, vI 0]), .s (li 2)]]
def Z6r (L : List YB) (y : YS) : Lp Nat := .mk 56 0 (fun x => [(4, .one (.ptr 0 0)), (6, ll ((cnd L y.text y.scopes).map Yhg)), (7, .one (.ptr 1
 0)), (22, ll ((cnd L y.text y.scopes).map Yhg)), (23, li (↑((cnd L y.text y.scopes).map Yhg).length : Int)), (24, hs x 0)]) (fun x => [.box [vS (ByteArray.mk
 #[]), .val (.lit (.slice none 0 0)), vI 0, vI 0], ho x 1]) (fun k => [.s (li (k : Int)), .o (.box (vals (Yhy (List.foldl Ykz ((cnd L y.text y.scopes).getD 0
 default) (List.take k (cnd L y.text y.scopes))))))]) (fun k => k <= (cnd L y.text y.scopes).length /\ (cnd L y.text y.scopes).length <= 9223372036854775807 /\ 0 < (cnd L y.text
 y.scopes).length) (fun k => (cnd L y.text y.scopes).length - k) [.mk True (.exit 0) (fun x => [(4, .one (.ptr 0 0)), (6, ll ((cnd L y.text y.scopes).map Yhg)), (7,
 .one (.ptr 1 0))]) (fun x => [.box [vS (ByteArray.mk #[]), .val (.lit (.slice none 0 0)), vI 0, vI 0], ho x 0]) [.o (.box (vals (Yhy (Yit (cnd L y.text
 y.scopes)))))]]
theorem Zg0 (L : List YB) (y : YS) (h : L.length <= 1048577 /\ Yhe wB L <= 1048577) : Lp.Sem Tryz.prog (Yht Tryz.f197 1) (Z6q L y) := Yi3 (fun k => .i ((↑k
 : Int) < (↑((cnd L y.text y.scopes).map Yhg).length : Int)) (.x (k : Int) ((cnd L y.text y.scopes).map Yhg) (Yhy ((cnd L y.text y.scopes).getD k
 default)) (.c [.rd, .rd] (Zd3 ((cnd L y.text y.scopes).getD k default).scopes (Yit (cnd L y.text y.scopes)).scopes) (.b (!Yku ((cnd L y.text y.scopes).getD k default).scopes
 (Yit (cnd L y.text y.scopes)).scopes) (.o 1 [0] [.o (.box [vS (ByteArray.mk #[]), .val (.lit (.slice none 0 0)), vI 0, vI 0]), .s (li 2)]) (.r ((k : Int) + 1) (.g
 [0, 1] (k + 1) [.s (li ((k : Int) + 1))]))))) (.o 0 [0, 1] [])) (by
 intro k h; try dsimp only [Yhj, Yhq, Z6q] at h ⊢
 have g1 := @Y14n (cnd L y.text y.scopes) k
 have g2 := @Y11g (cnd L y.text y.scopes) k
 have g3 := @Y161 (cnd L y.text y.scopes) k
 with_reducible repeat' (first | apply And.intro | exact zR | (intro) | apply Z14 | apply Z9)
 all_goals ((try simp only [std, inj] at *); with_reducible and_intros)
 all_goals try with_reducible first | apply Z14 | apply Z9
 all_goals (try exact zG))
theorem Zg1 (L : List YB) (y : YS) (h : L.length <= 1048577 /\ Yhe wB L <= 1048577) : Lp.Sem Tryz.prog (Yht Tryz.f197 0) (Z6r L y) := Yi3 (fun k => .i ((↑k
 : Int) < (↑((cnd L y.text y.scopes).map Yhg).length : Int)) (.x (k : Int) ((cnd L y.text y.scopes).map Yhg) (Yhy ((cnd L y.text y.scopes).getD k
 default)) (.z Yhh ((cnd L y.text y.scopes).getD k default).scopes (.z Yhh (List.foldl Ykz ((cnd L y.text y.scopes).getD 0 default) (List.take k (cnd L y.text y.scopes))).scopes
 (.i ((↑((List.foldl Ykz ((cnd L y.text y.scopes).getD 0 default) (List.take k (cnd L y.text y.scopes))).scopes.map Yhh).length : Int) < (↑(((cnd L y.text
 y.scopes).getD k default).scopes.map Yhh).length : Int)) (.r ((k : Int) + 1) (.g [0, 1] (k + 1) [.s (li ((k : Int) + 1)), .o (.box (vals (Yhy ((cnd L y.text y.scopes).getD k
 default))))])) (.r ((k : Int) + 1) (.g [0, 1] (k + 1) [.s (li ((k : Int) + 1)), .o (.box (vals (Yhy (List.foldl Ykz ((cnd L y.text y.scopes).getD 0 default) (List.take k
 (cnd L y.text y.scopes))))))])))))) (.o 0 [0, 1] [.o (.box (vals (Yhy (List.foldl Ykz ((cnd L y.text y.scopes).getD 0 default) (List.take k (cnd L y.text y.scopes))))))]))
 (by
 intro k h; try dsimp only [Yhj, Yhq, Z6r] at h ⊢
 have g1 := @Ync _ _ _ Ykz ((cnd L y.text y.scopes).getD 0 default) (cnd L y.text y.scopes) k
 have g2 : ∀ a b, Ykz a b = if a.scopes.length < b.scopes.length then b else a := fun _ _ => rfl
 have g3 : (cnd L y.text y.scopes).length <= k -> (cnd L y.text y.scopes).take k = cnd L y.text y.scopes := fun h => List.take_of_length_le h
 have g4 : Yit (cnd L y.text y.scopes) = (cnd L y.text y.scopes).foldl Ykz ((cnd L y.text y.scopes).getD 0 default) := rfl
 with_reducible repeat' (first | apply And.intro | exact zR | (intro) | apply Z14 | apply Z9)
 all_goals ((try simp only [std, inj] at *); with_reducible and_intros)
 all_goals try with_reducible first | apply Z14 | apply Z9
 all_goals (try exact zG))
theorem Zg2 (L : List YB) (y : YS) (h : L.length <= 1048577 /\ Yhe wB L <= 1048577)  : Z7u L y := Yhv Tryz.call197 Tryz.func197 (.d [.rd, .rd] (Z6p L y) (.z
 Yhg (cnd L y.text y.scopes) (.i ((↑((cnd L y.text y.scopes).map Yhg).length : Int) = 0) (.w (.ghost (.nilbox 1 1 true 1)) (.w (.ghost (.lock 2)) (.f [] [] (.tup
 [.agg [vS (ByteArray.mk #[]), vL [], vI 0, vI 0], li 0])))) (.w (.cells (Yhy ((cnd L y.text y.scopes).getD 0 default))) (.p ((0 : Int) <= 0 /\ ((cnd L
 y.text y.scopes).map Yhg)[0]? = some (Yhy ((cnd L y.text y.scopes).getD 0 default))) (.z Yhg (cnd L y.text y.scopes) (.l (Z6r L y) (Zg1 L y h) [1, 2] [.s (li 0), .o
 (.box (vals (Yhy ((cnd L y.text y.scopes).getD 0 default))))] 0 (.t (.z Yhg (cnd L y.text y.scopes) (.l (Z6q L y) (Zg0 L y h) [0, 1] [.s (li 0)] 0 (.t (.d
 [.rd] (Z44 [Yit (cnd L y.text y.scopes)]) (.p ((0 : Int) <= 0 /\ 0 < 1) (.w (.cells (Yhy (Yit (cnd L y.text y.scopes)))) (.p (some (Yhy (Yit (cnd L y.text
 y.scopes))) = some (Yhy (Yit (cnd L y.text y.scopes)))) (.w (.ghost (.lock 3)) (.f [] [] (.tup [.agg (vals (Yhy (Yit (cnd L y.text y.scopes)))), li 1]))))))) (.t
 (.w (.ghost (.nilbox 0 1 true 1)) (.w (.ghost (.lock 1)) (.f [] [] (.tup [.agg [vS (mkS []), vL [], vI 0, vI 0], li 2])))) .q)))) .q)))))))) (by
 dsimp only [Yhj, Z7u, Yhq, Z6r, Z6q]
 have g1 : 0 < (cnd L y.text y.scopes).length -> cnd L y.text y.scopes ≠ [] := fun h => List.length_pos_iff.1 h
 have g2 : (cnd L y.text y.scopes).length = 0 -> cnd L y.text y.scopes = [] := fun h => List.length_eq_zero_iff.1 h
 have g3 := @Y16a L y.text y.scopes
 have g4 : rsC L y.text y.scopes = if cnd L y.text y.scopes = [] then 0 else if amb (cnd L y.text y.scopes) = true then 1 else 2 := rfl
 have g5 : rsC L y.text y.scopes = 1 -> rsB L y.text y.scopes = Yit (cnd L y.text y.scopes) := fun h => if_pos h
 have g6 : ¬ rsC L y.text y.scopes = 1 -> rsB L y.text y.scopes = ⟨mkS [], [], 0, 0⟩ := fun h => if_neg h
 have g7 : Ysy (cnd L y.text y.scopes) 0 = true := rfl
 have g8 : ∀ b : YB, [b].getD 0 default = b := fun b => rfl
 have g9 : Yhe wB [Yit (cnd L y.text y.scopes)] = wB (Yit (cnd L y.text y.scopes)) := rfl
 have p1 : ¬ rsC L y.text y.scopes = 1 -> SV.agg [vS (mkS []), vL [], vI 0, vI 0] = SV.agg (vals (Yhy (rsB L y.text y.scopes))) := fun h => by rw [g6 h]; rfl
 have p2 : rsC L y.text y.scopes = 1 -> SV.agg [vS (Yit (cnd L y.text y.scopes)).text, vL ((Yit (cnd L y.text y.scopes)).scopes.map Yhh), vI (Yit (cnd L y.text y.scopes)).kind, vI (Yit (cnd L y.text y.scopes)).number] = SV.agg (vals (Yhy (rsB L y.text y.scopes))) := fun h => by rw [g5 h]; rfl
 with_reducible repeat' (first | apply And.intro | exact zR | (intro) | apply Z14 | apply Z9)
 all_goals ((try simp only [std, inj] at *); with_reducible and_intros)
 all_goals try with_reducible first | apply Z14 | apply Z9
 all_goals (try exact zG))
def bsI (L : List YB) (t : ByteArray) (s : List Int) : Nat -> Int
 | 0 => -1
 | k + 1 => if Yoh t s (L.getD k default) = true /\ (bsI L t s k < 0 ∨ (L.getD (bsI L t s k).toNat default).scopes.length < (L.getD k default).scopes.length) then (k : Int) else bsI L t s k
theorem Yyf (L : List YB) (t : ByteArray) (s : List Int) : ∀ k, k <= L.length -> -1 <= bsI L t s k /\ bsI L t s k < k /\ (bsI L t s k < 0 ↔ cnd (L.take k) t s = []) /\ (0 <= bsI L t s k -> L.getD (bsI L t s k).toNat default = Yit (cnd (L.take k) t s))
 | 0, _ => by simp [bsI, cnd]
 | k + 1, hk => by
  obtain ⟨h1, h2, h3, h4⟩ := Yyf L t s k (by omega)
  have e := @Y14i L t s k (by omega)
  simp only [bsI]
  by_cases c : Yoh t s (L.getD k default) = true
  ·rw [if_pos c] at e
   by_cases c2 : bsI L t s k < 0
   ·rw [if_pos ⟨c, .inl c2⟩, e, h3.1 c2]
    refine ⟨by omega, by omega, ⟨fun h => by omega, fun h => by simp at h⟩, fun _ => ?_⟩
    rw [Int.toNat_natCast, List.nil_append, Y1es]
   ·have hne : cnd (L.take k) t s ≠ [] := fun h => c2 (h3.2 h)
    have hb := h4 (by omega)
    by_cases c3 : (L.getD (bsI L t s k).toNat default).scopes.length < (L.getD k default).scopes.length
    ·rw [if_pos ⟨c, .inr c3⟩, e]
     refine ⟨by omega, by omega, ⟨fun h => by omega, fun h => by simp at h⟩, fun _ => ?_⟩
     rw [Int.toNat_natCast, Y11l _ hne, Ykz, if_pos (by rw [<- hb]; exact c3)]
    ·rw [if_neg (by rintro ⟨_, h | h⟩ <;> contradiction), e]
     refine ⟨h1, by omega, ⟨fun h => absurd h c2, fun h => by simp at h⟩, fun _ => ?_⟩
     rw [Y11l _ hne, Ykz, if_neg (by rw [<- hb]; exact c3)]; exact hb
  ·rw [if_neg (fun h => c h.1), e, if_neg c]
   exact ⟨h1, by omega, h3, h4⟩
def Yxj (L : List YB) (t : ByteArray) (s : List Int) (k : Nat) : Bool := (L.take k).all fun b => !Yoh t s b || Yku b.scopes (Yit (cnd L t s)).scopes
theorem Y1bn {L : List YB} {t : ByteArray} {s : List Int} {k : Nat} (hk : k < L.length) (h0 : Yxj L t s k = true) (h : Yoh t s (L.getD k default) = false ∨ Yku (L.getD k default).scopes (Yit (cnd L t s)).scopes = true) : Yxj L t s (k + 1) = true := by
 unfold Yxj at *; rw [Yi2 hk, List.all_append, h0]; simpa using h
theorem Y1ey {L : List YB} {t : ByteArray} {s : List Int} {k : Nat} (hk : L.length <= k) (h0 : Yxj L t s k = true) : amb (cnd L t s) = true := by
 unfold Yxj at h0; rw [List.take_of_length_le hk, List.all_eq_true] at h0
 unfold amb; rw [List.all_eq_true]
 intro x hx
 have h1 := List.mem_filter.1 hx
 have := h0 x h1.1
 rw [h1.2] at this; simpa using this
theorem Y1cq {L : List YB} {t : ByteArray} {s : List Int} {k : Nat} (hk : k < L.length) (h1 : Yoh t s (L.getD k default) = true) (h : Yku (L.getD k default).scopes (Yit (cnd L t s)).scopes = false) : amb (cnd L t s) = false := by
 unfold amb; rw [List.all_eq_false]; exact ⟨_, List.mem_filter.2 ⟨Yhn hk, h1⟩, by rw [h]; decide⟩
abbrev Z6e (L : List YB) (y : YS) : Ct := ⟨200, [], [ll (L.map Yhg), Yhz y], Ywu (rsB L y.text y.scopes), .tup [Yxd (rsB L y.text y.scopes) 0, li (rsC L y.text y.scopes)]⟩
def Z6s (L : List YB) (y : YS) : Lp Nat := .mk 87 0 (fun x => [(0, ll (L.map Yhg)), (3, .one (.ptr 0 0)), (4, .one (.ptr 1 0)), (6, li (bsI L
 y.text y.scopes L.length)), (51, ll (L.map Yhg)), (52, li (↑(L.map Yhg).length : Int)), (53, hs x 0)]) (fun x => [.box (vals (Yhk y)), .box [vS
 (ByteArray.mk #[]), .val (.lit (.slice none 0 0)), vI 0, vI 0]]) (fun k => [.s (li (k : Int))]) (fun k => k <= L.length /\ L.length <= 9223372036854775807 /\ 0 <= bsI L
 y.text y.scopes L.length /\ Yxj L y.text y.scopes k = true) (fun k => L.length - k) [.mk (amb (cnd L y.text y.scopes) = true) (.exit 2) (fun x => [(0, ll (L.map Yhg)),
 (4, .one (.ptr 0 0)), (6, li (bsI L y.text y.scopes L.length))]) (fun x => [.box [vS (ByteArray.mk #[]), .val (.lit (.slice none 0 0)), vI 0, vI 0]]) [], .mk (amb
 (cnd L y.text y.scopes) = false) .ret (fun x => [(4, .one (.ptr 0 0)), (5, hs x 1)]) (fun x => [ho x 0]) [.o (.box [vS (mkS []), .val (.lit (.slice none 0 0)), vI
 0, vI 0]), .s (li 2)]]
def Z6t (L : List YB) (y : YS) : Lp Nat := .mk 87 0 (fun x => [(0, ll (L.map Yhg)), (3, .one (.ptr 0 0)), (4, .one (.ptr 1 0)), (6, hs x 1), (11,
 ll (L.map Yhg)), (12, li (↑(L.map Yhg).length : Int)), (13, hs x 0)]) (fun x => [.box (vals (Yhk y)), .box [vS (ByteArray.mk #[]), .val (.lit
 (.slice none 0 0)), vI 0, vI 0]]) (fun k => [.s (li (k : Int)), .s (li (bsI L y.text y.scopes k))]) (fun k => k <= L.length /\ L.length <= 9223372036854775807) (fun k =>
 L.length - k) [.mk True (.exit 0) (fun x => [(0, ll (L.map Yhg)), (3, .one (.ptr 0 0)), (4, .one (.ptr 1 0)), (6, hs x 0)]) (fun x => [.box (vals (Yhk y)),
 .box [vS (ByteArray.mk #[]), .val (.lit (.slice none 0 0)), vI 0, vI 0]]) [.s (li (bsI L y.text y.scopes L.length))]]
theorem Zg3 (L : List YB) (y : YS) (h : L.length <= 1048577 /\ Yhe wB L <= 1048577) : Lp.Sem Tryz.prog (Yht Tryz.f200 1) (Z6s L y) := Yi3 (fun k => .i ((↑k
 : Int) < (↑(L.map Yhg).length : Int)) (.x (k : Int) (L.map Yhg) (Yhy (L.getD k default)) (.w (.draw []) (.i ((L.getD k default).text.data.toList =
 y.text.data.toList) (.c [.rd, .rd] (Zd5 (L.getD k default).scopes y.scopes) (.b (Yku (L.getD k default).scopes y.scopes) (.x (bsI L y.text y.scopes L.length) (List.map
 Yhg L) (Yhy (L.getD (bsI L y.text y.scopes L.length).toNat default)) (.c [.rd, .rd] (Zd5 (L.getD k default).scopes (L.getD (bsI L y.text y.scopes L.length).toNat
 default).scopes) (.b (!Yku (L.getD k default).scopes (L.getD (bsI L y.text y.scopes L.length).toNat default).scopes) (.o 1 [1] [.o (.box [vS (ByteArray.mk #[]), .val
 (.lit (.slice none 0 0)), vI 0, vI 0]), .s (li 2)]) (.r ((k : Int) + 1) (.g [0, 1] (k + 1) [.s (li ((k : Int) + 1))]))))) (.y false (.r ((k : Int) + 1) (.g [0, 1] (k +
 1) [.s (li ((k : Int) + 1))]))))) (.y false (.y false (.r ((k : Int) + 1) (.g [0, 1] (k + 1) [.s (li ((k : Int) + 1))]))))))) (.o 0 [1] [])) (by
 intro k h; try dsimp only [Yhj, Yhq, Z6s] at h ⊢
 have g1 := Yyf L y.text y.scopes L.length
 have g2 : L.take L.length = L := List.take_length
 have g3 := @Y1bn L y.text y.scopes k
 have g4 := @Y1ey L y.text y.scopes k
 have g5 := @Y1cq L y.text y.scopes k
 with_reducible repeat' (first | apply And.intro | exact zR | (intro) | apply Zl)
 all_goals ((try simp only [std, inj] at *); with_reducible and_intros)
 all_goals try with_reducible first | apply Zl
 all_goals try first | exact z | grind [Yoh, Ykk, Yhl, Yhm, Yhi])
theorem Zg4 (L : List YB) (y : YS) (h : L.length <= 1048577 /\ Yhe wB L <= 1048577) : Lp.Sem Tryz.prog (Yht Tryz.f200 0) (Z6t L y) := Yi3 (fun k => .i ((↑k
 : Int) < (↑(L.map Yhg).length : Int)) (.x (k : Int) (L.map Yhg) (Yhy (L.getD k default)) (.w (.draw []) (.i ((L.getD k default).text.data.toList =
 y.text.data.toList) (.c [.rd, .rd] (Zd5 (L.getD k default).scopes y.scopes) (.b (Yku (L.getD k default).scopes y.scopes) (.i (bsI L y.text y.scopes k < 0) (.y true (.r ((↑k :
 Int) + 1) (.g [0, 1] (k + 1) [.s (li ((k : Int) + 1)), .s (li (k : Int))]))) (.x (bsI L y.text y.scopes k) (L.map Yhg) (Yhy (L.getD (bsI L y.text y.scopes
 k).toNat default)) (.z Yhh (L.getD k default).scopes (.z Yhh (L.getD (bsI L y.text y.scopes k).toNat default).scopes (.i ((↑((L.getD (bsI L y.text y.scopes
 k).toNat default).scopes.map Yhh).length : Int) < (↑((L.getD k default).scopes.map Yhh).length : Int)) (.r ((k : Int) + 1) (.g [0, 1] (k + 1) [.s (li ((k : Int) + 1)), .s (li (↑k
 : Int))])) (.r ((k : Int) + 1) (.g [0, 1] (k + 1) [.s (li ((k : Int) + 1)), .s (li (bsI L y.text y.scopes k))]))))))) (.y false (.r ((k : Int) + 1) (.g [0, 1] (k + 1) [.s (li
 ((k : Int) + 1)), .s (li (bsI L y.text y.scopes k))]))))) (.y false (.y false (.r ((k : Int) + 1) (.g [0, 1] (k + 1) [.s (li ((k : Int) + 1)), .s (li (bsI L y.text y.scopes
 k))]))))))) (.o 0 [0, 1] [.s (li (bsI L y.text y.scopes k))])) (by
 intro k h; try dsimp only [Yhj, Yhq, Z6t] at h ⊢
 have g1 := Yyf L y.text y.scopes k
 have g2 : bsI L y.text y.scopes (k + 1) = if Yoh y.text y.scopes (L.getD k default) = true /\ (bsI L y.text y.scopes k < 0 ∨ (L.getD (bsI L y.text y.scopes k).toNat default).scopes.length < (L.getD k default).scopes.length) then (k : Int) else bsI L y.text y.scopes k := rfl
 with_reducible repeat' (first | apply And.intro | exact zR | (intro) | apply Zl)
 all_goals ((try simp only [std, inj] at *); with_reducible and_intros)
 all_goals try with_reducible first | apply Zl
 all_goals try first | exact z | grind [Yoh, Ykk, Yhl, Yhm, Yhi])
theorem Za5 (L : List YB) (y : YS) (h : L.length <= 1048577 /\ Yhe wB L <= 1048577)  : Z6e L y := Yhv Tryz.call200 Tryz.func200 (.z Yhg L (.l (Z6t L y)
 (Zg4 L y h) [0, 1] [.s (li 0), .s (li (-1 : Int))] 0 (.t (.i (bsI L y.text y.scopes L.length < 0) (.w (.ghost (.nilbox 1 1 true 1)) (.f [2] [.arr true 1 []] (.tup
 [.agg [vS (ByteArray.mk #[]), .ref 0, vI 0, vI 0], li 0]))) (.z Yhg L (.l (Z6s L y) (Zg3 L y h) [0, 1] [.s (li 0)] 0 (.t (.x (bsI L y.text y.scopes L.length)
 (L.map Yhg) (Yhy (L.getD (bsI L y.text y.scopes L.length).toNat default)) (.d [.rd] (Z4s (L.getD (bsI L y.text y.scopes L.length).toNat default)) (.f [1]
 [.arr true 1 ((L.getD (bsI L y.text y.scopes L.length).toNat default).scopes.map Yhh)] (.tup [.agg [vS (L.getD (bsI L y.text y.scopes L.length).toNat default).text,
 .ref 0, vI (L.getD (bsI L y.text y.scopes L.length).toNat default).kind, vI (L.getD (bsI L y.text y.scopes L.length).toNat default).number], li 1])))) (.t (.w (.ghost (.nilbox 0
 1 true 1)) (.f [1] [.arr true 1 []] (.tup [.agg [vS (mkS []), .ref 0, vI 0, vI 0], li 2]))) .q))))) .q))) (by
 dsimp only [Yhj, Z6e, Yhq, Z6t, Z6s]
 have g1 := Yyf L y.text y.scopes L.length
 have g2 : L.take L.length = L := List.take_length
 have g3 := @Y16a L y.text y.scopes
 have g4 : rsC L y.text y.scopes = if cnd L y.text y.scopes = [] then 0 else if amb (cnd L y.text y.scopes) = true then 1 else 2 := rfl
 have g5 : rsC L y.text y.scopes = 1 -> rsB L y.text y.scopes = Yit (cnd L y.text y.scopes) := fun h => if_pos h
 have g6 : ¬ rsC L y.text y.scopes = 1 -> rsB L y.text y.scopes = ⟨mkS [], [], 0, 0⟩ := fun h => if_neg h
 have g7 : Yxj L y.text y.scopes 0 = true := rfl
 have g8 : bsI L y.text y.scopes 0 = -1 := rfl
 with_reducible repeat' (first | apply And.intro | exact zR | (intro) | apply Zl)
 all_goals ((try simp only [std, inj] at *); with_reducible and_intros)
 all_goals try with_reducible first | apply Zl
 all_goals (try exact zG))
def mng (L : List YB) (a b : YS) : Bool := if rsC L a.text a.scopes = 0 /\ rsC L b.text b.scopes = 0 then decide (a.text = b.text) else decide (rsC L a.text a.scopes = 1) && decide (rsC L b.text b.scopes = 1) && decide ((rsB L a.text a.scopes).kind = (rsB L b.text b.scopes).kind) && decide ((rsB L a.text a.scopes).number = (rsB L b.text b.scopes).number)
abbrev Z8e (L : List YB) (a : YS) (b : YS) : Ct := ⟨184, [], [ll (L.map Yhg), Yhz a, Yhz b], [], .sv (lb (mng L a b))⟩
theorem Zat (L : List YB) (a b : YS) (h : L.length <= 1048577 /\ Yhe wB L <= 1048577)  : Z8e L a b := Yhv Tryz.call184 Tryz.func184 (.d [.rd, .rd] (Z7u L a)
 (.d [.rd, .rd] (Z7u L b) (.i (rsC L a.text a.scopes = 0) (.i (rsC L b.text b.scopes = 0) (.s (lb (decide (a.text.data.toList = b.text.data.toList)))) (.i (rsC L a.text
 a.scopes = 1) (.i (rsC L b.text b.scopes = 1) (.i ((rsB L a.text a.scopes).kind = (rsB L b.text b.scopes).kind) (.s (lb (decide ((rsB L a.text a.scopes).number = (rsB L b.text
 b.scopes).number)))) (.s (lb false))) (.y false (.s (lb false)))) (.y false (.y false (.s (lb false)))))) (.y false (.i (rsC L a.text a.scopes = 1) (.i (rsC L b.text b.scopes = 1)
 (.i ((rsB L a.text a.scopes).kind = (rsB L b.text b.scopes).kind) (.s (lb (decide ((rsB L a.text a.scopes).number = (rsB L b.text b.scopes).number)))) (.s (lb false))) (.y false
 (.s (lb false)))) (.y false (.y false (.s (lb false))))))))) (by
 dsimp only [Yhj, Z8e]
 with_reducible repeat' (first | apply And.intro | exact zR | (intro) | apply Zg2)
 all_goals ((try simp only [std, inj] at *); with_reducible and_intros)
 all_goals try with_reducible first | apply Zg2
 all_goals try first | exact z | grind [mng, Ykk, Yhl, Yhm, Yhi])
abbrev Z8f (L : List YB) (a : YS) (b : YS) : Ct := ⟨192, [], [ll (L.map Yhg), Yhz a, Yhz b], [], .sv (lb (mng L a b))⟩
theorem Zeb (L : List YB) (a b : YS) (h : L.length <= 1048577 /\ Yhe wB L <= 1048577)  : Z8f L a b := Yhv Tryz.call192 Tryz.func192 (.d [.rd, .rd] (Z6e L a)
 (.d [.rd, .rd] (Z6e L b) (.i (rsC L a.text a.scopes = 1) (.i (rsC L b.text b.scopes = 1) (.i ((rsB L a.text a.scopes).kind = (rsB L b.text b.scopes).kind) (.s (lb (decide
 ((rsB L a.text a.scopes).number = (rsB L b.text b.scopes).number)))) (.s (lb false))) (.i (rsC L a.text a.scopes = 0) (.i (rsC L b.text b.scopes = 0) (.s (lb (decide
 (a.text.data.toList = b.text.data.toList)))) (.s (lb false))) (.y false (.s (lb false))))) (.y false (.i (rsC L a.text a.scopes = 0) (.i (rsC L b.text b.scopes = 0) (.s (lb
 (decide (a.text.data.toList = b.text.data.toList)))) (.s (lb false))) (.y false (.s (lb false)))))))) (by
 dsimp only [Yhj, Z8f]
 with_reducible repeat' (first | apply And.intro | exact zR | (intro) | apply Za5)
 all_goals ((try simp only [std, inj] at *); with_reducible and_intros)
 all_goals try with_reducible first | apply Za5
 all_goals try first | exact z | grind [mng, Ykk, Yhl, Yhm, Yhi])
def Yr8 (p f : YS) : YC := ⟨p, 0, f, []⟩
mutual
/-- the variables of a pattern, in their order -/
def nm (H : YS -> Bool) (A : List YS -> Int) : YS -> Int -> List YC
 | ⟨k, n, t, s, l⟩, d => if k = 1 then (if Yj1 ⟨k, n, t, s, l⟩ = true ∨ H ⟨k, n, t, s, l⟩ = true then [] else [Yoo ⟨k, n, t, s, l⟩ d]) else if k = 0 then nms H A l 0 (A l) d else []
def nms (H : YS -> Bool) (A : List YS -> Int) : List YS -> Int -> Int -> Int -> List YC
 | [], _, _, _ => []
 | x :: r, i, a, d => (if i = a then [] else nm H A x (if i + 1 = a then d + 1 else d)) ++ nms H A r (i + 1) a d
end
theorem Ymz (H : YS -> Bool) (A : List YS -> Int) (p : YS) (d : Int) : nm H A p d = if p.kind = 1 then (if Yj1 p = true ∨ H p = true then [] else [Yoo p d]) else if p.kind = 0 then nms H A p.items 0 (A p.items) d else [] := by cases p; simp only [nm]
def upC (x : YC) : YC := ⟨x.name, x.depth + 1, x.form, x.each⟩
def rp (V : List YC) (R : List (List YC)) : List YC := (List.range V.length).map fun i => ⟨(V.getD i default).name, (V.getD i default).depth, (V.getD i default).form, (V.getD i default).each ++ R.map fun c => c.getD i default⟩
theorem Ymj (V : List YC) (R : List (List YC)) : (rp V R).length = V.length := by simp [rp]
def mtr (g : YS -> Option (List YC)) : List YS -> Option (List (List YC))
 | [] => some []
 | f :: r => match g f with
  | none => none
  | some c => match mtr g r with
   | none => none
   | some R => some (c :: R)
def Yms (a : Int) (n m : Nat) : Int := if 0 <= a then (m : Int) - ((n : Int) - 2) else 0
def Yqh (a : Int) (l : List YS) (f : YS) : Bool := decide (f.kind = 0) && decide (0 <= Yms a l.length f.items.length) && (decide (0 <= a) || decide (f.items.length = l.length))
mutual
/-- a match: what is captured -/
def mt (M : YS -> YS -> Bool) (H : YS -> Bool) (A : List YS -> Int) : YS -> YS -> Option (List YC)
 | ⟨k, n, t, s, l⟩, f => if k = 1 then (if Yj1 ⟨k, n, t, s, l⟩ = true then some [] else if H ⟨k, n, t, s, l⟩ = true then (if f.kind = 1 /\ M ⟨k, n, t, s, l⟩ f = true then some [] else none) else some [Yr8 ⟨k, n, t, s, l⟩ f])
  else if k = 0 then (if Yqh (A l) l f = true then mts M H A l 0 (A l) (Yms (A l) l.length f.items.length).toNat f.items else none)
  else if f.kind = k /\ f.number = n /\ f.text = t then some [] else none
def mts (M : YS -> YS -> Bool) (H : YS -> Bool) (A : List YS -> Int) : List YS -> Int -> Int -> Nat -> List YS -> Option (List YC)
 | [], _, _, _, _ => some []
 | x :: r, i, a, m, fs => if i = a then mts M H A r (i + 1) a m fs
  else if i + 1 = a then (match mtr (mt M H A x) (fs.take m) with
   | none => none
   | some R => match mts M H A r (i + 1) a m (fs.drop m) with
    | none => none
    | some c => some (rp (nm H A x 1) R ++ c))
  else match mt M H A x (fs.getD 0 default) with
   | none => none
   | some c => match mts M H A r (i + 1) a m (fs.drop 1) with
    | none => none
    | some d => some (c ++ d)
end
theorem Yle (M : YS -> YS -> Bool) (H : YS -> Bool) (A : List YS -> Int) (p f : YS) : mt M H A p f = if p.kind = 1 then (if Yj1 p = true then some [] else if H p = true then (if f.kind = 1 /\ M p f = true then some [] else none) else some [Yr8 p f])
  else if p.kind = 0 then (if Yqh (A p.items) p.items f = true then mts M H A p.items 0 (A p.items) (Yms (A p.items) p.items.length f.items.length).toNat f.items else none)
  else if f.kind = p.kind /\ f.number = p.number /\ f.text = p.text then some [] else none := by cases p; simp only [mt]
theorem Y17t (H : YS -> Bool) (A : List YS -> Int) : ∀ (l : List YS), (∀ x ∈ l, ∀ d, nm H A x (d + 1) = (nm H A x d).map upC) -> ∀ i a d, nms H A l i a (d + 1) = (nms H A l i a d).map upC
 | [], _, i, a, d => by simp [nms]
 | x :: r, h, i, a, d => by
  simp only [nms, List.map_append, Y17t H A r (fun y hy => h y (List.mem_cons_of_mem _ hy))]
  congr 1
  split
  ·rfl
  ·split
   ·exact h x List.mem_cons_self (d + 1)
   ·exact h x List.mem_cons_self d
theorem Y1cn (H : YS -> Bool) (A : List YS -> Int) : ∀ (p : YS) (d : Int), nm H A p (d + 1) = (nm H A p d).map upC := by
 intro p
 refine YS.ind (P := fun p => ∀ d, nm H A p (d + 1) = (nm H A p d).map upC) (fun p ih d => ?_) p
 rw [Ymz, Ymz]
 split
 ·split
  ·rfl
  ·rfl
 ·split
  ·exact Y17t H A p.items ih 0 _ d
  ·rfl
theorem Y18r {M : YS -> YS -> Bool} {H : YS -> Bool} {A : List YS -> Int} : ∀ (l : List YS), (∀ x ∈ l, ∀ f c, mt M H A x f = some c -> c.length = (nm H A x 0).length) -> ∀ i a m fs c, mts M H A l i a m fs = some c -> c.length = (nms H A l i a 0).length
 | [], _, i, a, m, fs, c, e => by simp only [mts, Option.some.injEq] at e; subst e; simp [nms]
 | x :: r, h, i, a, m, fs, c, e => by
  have ih := Y18r r (fun y hy => h y (List.mem_cons_of_mem _ hy)) (i + 1) a m
  simp only [mts] at e
  simp only [nms]
  split at e
  ·rename_i hi; rw [if_pos hi]; simpa using ih _ _ e
  ·rename_i hi
   rw [if_neg hi]
   split at e
   ·rename_i hi2
    rw [if_pos hi2]
    split at e
    ·cases e
    ·split at e
     ·cases e
     ·rename_i c' hc
      simp only [Option.some.injEq] at e; subst e
      rw [List.length_append, List.length_append, Ymj, ih _ _ hc]; rfl
   ·rename_i hi2
    rw [if_neg hi2]
    split at e
    ·cases e
    ·rename_i c1 h1
     split at e
     ·cases e
     ·rename_i c' hc
      simp only [Option.some.injEq] at e; subst e
      rw [List.length_append, List.length_append, h x List.mem_cons_self _ _ h1, ih _ _ hc]
theorem Y13u {M : YS -> YS -> Bool} {H : YS -> Bool} {A : List YS -> Int} : ∀ (p f : YS) (c : List YC), mt M H A p f = some c -> c.length = (nm H A p 0).length := by
 intro p
 refine YS.ind (P := fun p => ∀ f c, mt M H A p f = some c -> c.length = (nm H A p 0).length) (fun p ih f c e => ?_) p
 rw [Yle] at e
 rw [Ymz]
 split at e
 ·rename_i hk
  rw [if_pos hk]
  split at e
  ·rename_i hu; simp only [Option.some.injEq] at e; subst e; rw [if_pos (.inl hu)]
  ·rename_i hu
   split at e
   ·rename_i hh
    split at e
    ·simp only [Option.some.injEq] at e; subst e; rw [if_pos (.inr hh)]
    ·cases e
   ·rename_i hh
    simp only [Option.some.injEq] at e; subst e
    rw [if_neg (by simp [hu, hh])]; rfl
 ·rename_i hk
  rw [if_neg hk]
  split at e
  ·rename_i h0
   rw [if_pos h0]
   split at e
   ·exact Y18r p.items ih _ _ _ _ _ e
   ·cases e
  ·rename_i h0
   rw [if_neg h0]
   split at e
   ·simp only [Option.some.injEq] at e; subst e; rfl
   ·cases e
theorem Y18n (H : YS -> Bool) (A : List YS -> Int) (p : YS) : (nm H A p 1).length = (nm H A p 0).length := by
 have := Y1cn H A p 0
 rw [show (0 : Int) + 1 = 1 from rfl] at this
 rw [this, List.length_map]
def aS (l : List YS) : Int := if okS l = true then atS l else -1
theorem Y1b5 {Ls : List YS} : ∀ (l : List YS), (∀ x ∈ l, ∀ d o r, vrS Ls x d o = some r -> r = o ++ nm (Yim Ls) aS x d) -> ∀ i a d o r, wlk (vrS Ls) l i a d o = some r -> r = o ++ nms (Yim Ls) aS l i a d
 | [], _, i, a, d, o, r, e => by simp only [wlk, Option.some.injEq] at e; subst e; simp [nms]
 | x :: l, h, i, a, d, o, r, e => by
  have ih := Y1b5 l fun y hy => h y (List.mem_cons_of_mem _ hy)
  simp only [wlk] at e
  simp only [nms]
  split at e
  ·rename_i hi; rw [if_pos hi, ih _ _ _ _ _ e]; rfl
  ·rename_i hi
   rw [if_neg hi]
   split at e
   ·cases e
   ·rename_i o1 h1
    rw [ih _ _ _ _ _ e, h x List.mem_cons_self _ _ _ h1, List.append_assoc]
theorem Y1bu {Ls : List YS} : ∀ (p : YS), okY p = true -> ∀ d o r, vrS Ls p d o = some r -> r = o ++ nm (Yim Ls) aS p d := by
 refine YS.ind fun p ih h d o r e => ?_
 rw [Ymm] at e
 rw [Ymz]
 split at e
 ·rename_i hk
  rw [if_pos hk]
  split at e
  ·rename_i hu; simp only [Option.some.injEq] at e; subst e; rw [if_pos hu]; simp
  ·rename_i hu
   rw [if_neg hu]
   split at e
   ·cases e
   ·simp only [Option.some.injEq] at e; exact e.symm
 ·rename_i hk
  rw [if_neg hk]
  split at e
  ·rename_i hs
   by_cases h0 : p.kind = 0
   ·rw [if_pos h0]
    have ha : aS p.items = atS p.items := if_pos hs
    rw [ha]
    exact Y1b5 p.items (fun x hx => ih x hx (Yla h x hx)) _ _ _ _ _ e
   ·rw [if_neg h0]
    rw [Y14t h hk h0] at e
    simp only [wlk, Option.some.injEq] at e; subst e; simp
  ·cases e
theorem Yvu (L : List YC) (q : YS) : 0 <= fnd L q ↔ Yhr q = false /\ L.any (Yl8 q) = true := by
 have h1 : Ymd L q < L.length ↔ L.any (Yl8 q) = true := by
  unfold Ymd
  rw [List.findIdx_lt_length, List.any_eq_true]
 unfold fnd
 constructor
 ·intro h
  split at h
  ·rename_i hc; exact ⟨hc.1, h1.1 hc.2⟩
  ·omega
 ·rintro ⟨h2, h3⟩
  rw [if_pos ⟨h2, h1.2 h3⟩]; omega
theorem Y14o {Ls : List YS} : ∀ (l : List YS), (∀ x ∈ l, ∀ d o r, vrS Ls x d o = some r -> ∀ d' o', d' <= d -> (∀ q, 0 <= fnd o' q -> 0 <= fnd o q) -> ∃ r', vrS Ls x d' o' = some r' /\ ∀ q, 0 <= fnd r' q -> 0 <= fnd r q) ->
  ∀ i a d o r, wlk (vrS Ls) l i a d o = some r -> ∀ d' o', d' <= d -> (∀ q, 0 <= fnd o' q -> 0 <= fnd o q) -> ∃ r', wlk (vrS Ls) l i a d' o' = some r' /\ ∀ q, 0 <= fnd r' q -> 0 <= fnd r q
 | [], _, i, a, d, o, r, e, d', o', hd, ho => by simp only [wlk, Option.some.injEq] at e ⊢; subst e; exact ⟨o', rfl, ho⟩
 | x :: l, h, i, a, d, o, r, e, d', o', hd, ho => by
  have ih := Y14o l fun y hy => h y (List.mem_cons_of_mem _ hy)
  simp only [wlk] at e ⊢
  split at e
  ·rename_i hi; rw [if_pos hi]; exact ih _ _ _ _ _ e _ _ hd ho
  ·rename_i hi
   rw [if_neg hi]
   split at e
   ·cases e
   ·rename_i o1 h1
    obtain ⟨r1, e1, e2⟩ := h x List.mem_cons_self _ _ _ h1 (if i + 1 = a then d' + 1 else d') o' (by split <;> omega) ho
    rw [e1]
    exact ih _ _ _ _ _ e _ _ hd e2
theorem Y13n {Ls : List YS} : ∀ (p : YS) (d : Int) (o r : List YC), vrS Ls p d o = some r -> ∀ d' o', d' <= d -> (∀ q, 0 <= fnd o' q -> 0 <= fnd o q) -> ∃ r', vrS Ls p d' o' = some r' /\ ∀ q, 0 <= fnd r' q -> 0 <= fnd r q := by
 refine YS.ind fun p ih d o r e d' o' hd ho => ?_
 rw [Ymm] at e ⊢
 split at e
 ·rename_i hk
  rw [if_pos hk]
  split at e
  ·rename_i hu; simp only [Option.some.injEq] at e; subst e; rw [if_pos hu]; exact ⟨o', rfl, ho⟩
  ·rename_i hu
   rw [if_neg hu]
   split at e
   ·cases e
   ·rename_i hb
    simp only [Option.some.injEq] at e; subst e
    rw [if_neg (fun hc => hb (hc.imp id (Or.imp (ho p) (fun h => by omega))))]
    refine ⟨_, rfl, fun q hq => ?_⟩
    rw [Yvu] at hq ⊢
    refine ⟨hq.1, ?_⟩
    rw [List.any_append, Bool.or_eq_true] at hq ⊢
    rcases hq.2 with h1 | h1
    ·exact .inl ((Yvu o q).1 (ho q ((Yvu o' q).2 ⟨hq.1, h1⟩))).2
    ·exact .inr h1
 ·rename_i hk
  rw [if_neg hk]
  split at e
  ·rename_i hs
   rw [if_pos hs]
   exact Y14o p.items ih _ _ _ _ _ e _ _ hd ho
  ·cases e
theorem Yxg {f : YS -> Int -> List YC -> Option (List YC)} : ∀ (l : List YS) (i a d : Int) (o r : List YC), wlk f l i a d o = some r -> ∀ k : Nat, k < l.length -> i + k ≠ a ->
  ∃ o' r', f (l.getD k default) (if i + k + 1 = a then d + 1 else d) o' = some r'
 | [], i, a, d, o, r, e, k, hk, _ => by simp at hk
 | x :: l, i, a, d, o, r, e, k, hk, hne => by
  simp only [wlk] at e
  cases k with
  | zero =>
   split at e
   ·rename_i hi; exact absurd hi (by simpa using hne)
   ·split at e
    ·cases e
    ·rename_i o1 h1
     exact ⟨o, o1, by simpa using h1⟩
  | succ k =>
   have hk' : k < l.length := by simpa using hk
   have e1 : i + ((k + 1 : Nat) : Int) = i + 1 + (k : Int) := by omega
   have : ∃ o2 r2, wlk f l (i + 1) a d o2 = some r2 := by
    split at e
    ·exact ⟨_, _, e⟩
    ·split at e
     ·cases e
     ·exact ⟨_, _, e⟩
   obtain ⟨o2, r2, e2⟩ := this
   rw [e1] at hne ⊢
   simpa using Yxg l (i + 1) a d o2 r2 e2 k hk' hne
def good (Ls : List YS) (p : YS) : Prop := okY p = true /\ ∃ d o r, 0 <= d /\ vrS Ls p d o = some r
theorem Yt6 {Ls : List YS} {p : YS} (h : good Ls p) (h0 : p.kind = 0) : okS p.items = true := by
 obtain ⟨_, d, o, r, _, e⟩ := h
 rw [Ymm, if_neg (by omega)] at e
 cases hs : okS p.items with
 | true => rfl
 | false => rw [hs, if_neg (by simp)] at e; cases e
theorem Yoc {Ls : List YS} {p : YS} (h : good Ls p) (h0 : p.kind = 0) {k : Nat} (hk : k < p.items.length) (hne : (k : Int) ≠ aS p.items) : good Ls (p.items.getD k default) := by
 have hs := Yt6 h h0
 obtain ⟨hy, d, o, r, hd, e⟩ := h
 refine ⟨Yla hy _ (Yhn hk), ?_⟩
 rw [Ymm, if_neg (by omega), if_pos hs] at e
 have ha : aS p.items = atS p.items := if_pos hs
 rw [ha] at hne
 obtain ⟨o', r', e'⟩ := Yxg p.items 0 _ d o r e k hk (by omega)
 exact ⟨_, o', r', by split <;> omega, e'⟩
theorem Yt3 {Ls : List YS} {p : YS} (h : good Ls p) (h0 : p.kind = 0) {k : Nat} (hk : k < p.items.length) (ha : (k : Int) + 1 = aS p.items) :
  vrS Ls (p.items.getD k default) 0 [] = some (nm (Yim Ls) aS (p.items.getD k default) 0) /\ vrS Ls (p.items.getD k default) 1 [] = some (nm (Yim Ls) aS (p.items.getD k default) 1) := by
 have hs := Yt6 h h0
 obtain ⟨hy, d, o, r, hd, e⟩ := h
 have hy' := Yla hy _ (Yhn hk)
 rw [Ymm, if_neg (by omega), if_pos hs] at e
 have ha' : aS p.items = atS p.items := if_pos hs
 rw [ha'] at ha
 obtain ⟨o', r', e'⟩ := Yxg p.items 0 _ d o r e k hk (by omega)
 rw [if_pos (by omega)] at e'
 have hn : ∀ q, 0 <= fnd [] q -> 0 <= fnd o' q := fun q hq => by rw [Yvu] at hq; simp at hq
 obtain ⟨r0, e0, _⟩ := Y13n _ _ _ _ e' 0 [] (by omega) hn
 obtain ⟨r1, e1, _⟩ := Y13n _ _ _ _ e' 1 [] (by omega) hn
 refine ⟨?_, ?_⟩
 ·rw [e0]; exact congrArg some (by simpa using Y1bu _ hy' _ _ _ e0)
 ·rw [e1]; exact congrArg some (by simpa using Y1bu _ hy' _ _ _ e1)
theorem Y1b3 {g g' : YS -> Option (List YC)} (h : ∀ f, g f = g' f) (L : List YS) : mtr g L = mtr g' L := by rw [funext h]
theorem Y13s {M : YS -> YS -> Bool} {H H' : YS -> Bool} {A A' : List YS -> Int} {a : Int} : ∀ (l : List YS) (i : Int), (∀ k : Nat, k < l.length -> i + k ≠ a -> (∀ f, mt M H A (l.getD k default) f = mt M H' A' (l.getD k default) f) /\
      nm H A (l.getD k default) 1 = nm H' A' (l.getD k default) 1) -> ∀ m fs, mts M H A l i a m fs = mts M H' A' l i a m fs
  | [], i, _, m, fs => by simp only [mts]
  | x :: r, i, h, m, fs => by
    have ih := Y13s (a := a) r (i + 1) (fun k hk hne => by
      have := h (k + 1) (by simpa using hk) (by omega)
      simpa using this)
    simp only [mts, ih]
    by_cases hi : i = a
    · rw [if_pos hi, if_pos hi]
    · obtain ⟨h1, h2⟩ := h 0 (by simp) (by simpa using hi)
      simp only [List.getD_cons_zero] at h1 h2
      rw [if_neg hi, if_neg hi, Y1b3 h1, h2, h1]
theorem Y14m {H H' : YS -> Bool} {A A' : List YS -> Int} {a : Int} : ∀ (l : List YS) (i : Int), (∀ k : Nat, k < l.length -> i + k ≠ a -> ∀ d, nm H A (l.getD k default) d = nm H' A' (l.getD k default) d) -> ∀ d, nms H A l i a d = nms H' A' l i a d
 | [], i, _, d => by simp only [nms]
 | x :: r, i, h, d => by
  have ih := Y14m (a := a) r (i + 1) (fun k hk hne => by
   have := h (k + 1) (by simpa using hk) (by omega)
   simpa using this)
  simp only [nms, ih]
  by_cases hi : i = a
  ·rw [if_pos hi, if_pos hi]
  ·have h1 := h 0 (by simp) (by simpa using hi)
   simp only [List.getD_cons_zero] at h1
   rw [if_neg hi, if_neg hi, h1]
theorem Y176 {M : YS -> YS -> Bool} {Ls : List YS} (hL : ∀ x ∈ Ls, Yke x = true) : ∀ p : YS, good Ls p -> (∀ f, mt M (Yim Ls) aS p f = mt M (Yki Ls) atI p f) /\ ∀ d, nm (Yim Ls) aS p d = nm (Yki Ls) atI p d := by
 refine YS.ind fun p ih hg => ?_
 by_cases hk : p.kind = 1
 ·have hh := Y114 hL hk
  refine ⟨fun f => ?_, fun d => ?_⟩
  ·rw [Yle, Yle, if_pos hk, if_pos hk, hh]
  ·rw [Ymz, Ymz, if_pos hk, if_pos hk, hh]
 ·by_cases h0 : p.kind = 0
  ·have hs := Yt6 hg h0
   have e1 : aS p.items = atI p.items := by rw [(Y15c hs).1]; exact if_pos hs
   have hit : ∀ k : Nat, k < p.items.length -> (0 : Int) + k ≠ atI p.items -> (∀ f, mt M (Yim Ls) aS (p.items.getD k default) f = mt M (Yki Ls) atI (p.items.getD k default) f) /\ ∀ d, nm (Yim Ls) aS (p.items.getD k default) d = nm (Yki Ls) atI (p.items.getD k default) d :=
    fun k hk' hne => ih _ (Yhn hk') (Yoc hg h0 hk' (by rw [e1]; omega))
   refine ⟨fun f => ?_, fun d => ?_⟩
   ·rw [Yle, Yle, if_neg hk, if_neg hk, if_pos h0, if_pos h0, e1, Y13s p.items 0 fun k hk' hne => ⟨(hit k hk' hne).1, (hit k hk' hne).2 1⟩]
   ·rw [Ymz, Ymz, if_neg hk, if_neg hk, if_pos h0, if_pos h0, e1, Y14m p.items 0 fun k hk' hne => (hit k hk' hne).2]
  ·refine ⟨fun f => ?_, fun d => ?_⟩
   ·rw [Yle, Yle, if_neg hk, if_neg hk, if_neg h0, if_neg h0]
   ·rw [Ymz, Ymz, if_neg hk, if_neg hk, if_neg h0, if_neg h0]
theorem Y15k {H : YS -> Bool} {A : List YS -> Int} : ∀ (l : List YS), (∀ x ∈ l, ∀ d, (nm H A x d).length <= Yho x) -> ∀ i a d, (nms H A l i a d).length <= Yhe Yho l
 | [], _, i, a, d => by simp [nms]
 | x :: r, h, i, a, d => by
  have ih := Y15k r (fun y hy => h y (List.mem_cons_of_mem _ hy)) (i + 1) a d
  simp only [nms, List.length_append, Yhe]
  split
  ·simp only [List.length_nil]; omega
  ·have := h x List.mem_cons_self (if i + 1 = a then d + 1 else d); omega
theorem Ys5 (H : YS -> Bool) (A : List YS -> Int) : ∀ (p : YS) (d : Int), (nm H A p d).length <= Yho p := by
 intro p
 refine YS.ind (P := fun p => ∀ d, (nm H A p d).length <= Yho p) (fun p ih d => ?_) p
 have hz := Yid p
 rw [Ymz]
 split
 ·split
  ·simp
  ·simp only [List.length_singleton]; omega
 ·split
  ·have := Y15k p.items ih 0 (A p.items) d; omega
  ·simp
def rws (g : YS -> Option (List YC)) (fs : List YS) (k : Nat) : Nat -> List (List YC) × Bool
 | 0 => ([], true)
 | j + 1 => if (rws g fs k j).2 = true then (match g (fs.getD (k + j) default) with | some c => ((rws g fs k j).1 ++ [c], true) | none => ((rws g fs k j).1, false)) else rws g fs k j
theorem Yzo {g : YS -> Option (List YC)} {fs : List YS} {k : Nat} : ∀ j, (rws g fs k j).2 = true -> (rws g fs k j).1.length = j
 | 0, _ => rfl
 | j + 1, h => by
  simp only [rws] at h ⊢
  split at h
  ·rename_i hj
   rw [if_pos hj]
   split at h
   ·rename_i c hc; rw [List.length_append, Yzo j hj, List.length_singleton]
   ·cases h
  ·rename_i hj; exact absurd h hj
theorem Ytf {g : YS -> Option (List YC)} {fs : List YS} {k j : Nat} (h : (rws g fs k j).2 = false) : ∀ n, rws g fs k (j + n) = rws g fs k j
 | 0 => rfl
 | n + 1 => by
  have ih := Ytf h n
  rw [<- Nat.add_assoc]
  simp only [rws, ih, h]
  simp
theorem Ywo {g : YS -> Option (List YC)} {fs : List YS} {k j : Nat} {c : List YC} (h : (rws g fs k j).2 = true) (hc : g (fs.getD (k + j) default) = some c) : rws g fs k (j + 1) = ((rws g fs k j).1 ++ [c], true) := by
 simp only [rws]; rw [if_pos h, hc]
theorem Yxk {g : YS -> Option (List YC)} {fs : List YS} {k j : Nat} (h : (rws g fs k j).2 = true) (hc : g (fs.getD (k + j) default) = none) : rws g fs k (j + 1) = ((rws g fs k j).1, false) := by
 simp only [rws]; rw [if_pos h, hc]
theorem Y13m (g : YS -> Option (List YC)) : ∀ (L : List YS) (x : YS), mtr g (L ++ [x]) = match mtr g L with | none => none | some R => match g x with | none => none | some c => some (R ++ [c])
 | [], x => by cases h : g x <;> simp [mtr, h]
 | y :: L, x => by
  simp only [List.cons_append, mtr, Y13m g L x]
  cases g y with
  | none => rfl
  | some c =>
   cases mtr g L with
   | none => rfl
   | some R => cases g x <;> rfl
theorem Yzt {g : YS -> Option (List YC)} {fs : List YS} {k : Nat} : ∀ j, k + j <= fs.length -> mtr g ((fs.drop k).take j) = if (rws g fs k j).2 = true then some (rws g fs k j).1 else none
 | 0, _ => by simp [mtr, rws]
 | j + 1, h => by
  have hj : j < (fs.drop k).length := by rw [List.length_drop]; omega
  have e : (fs.drop k).getD j default = fs.getD (k + j) default := by simp [List.getD_eq_getElem?_getD, List.getElem?_drop]
  rw [Yi2 hj, Y13m, Yzt j (by omega), e]
  by_cases hr : (rws g fs k j).2 = true
  ·rw [if_pos hr]
   cases hg : g (fs.getD (k + j) default) with
   | none => rw [Yxk hr hg]; rfl
   | some c => rw [Ywo hr hg]; rfl
  ·have hr' : (rws g fs k j).2 = false := by simpa using hr
   rw [if_neg hr, Ytf hr' 1, if_neg hr]
def flM (x : YS) (L : List YC) : List YC := if x.kind = 0 then [] else L
def sA (g : YS -> YS -> Option (List YC)) (N : YS -> List YC) (l fs : List YS) (a : Int) (m : Nat) (o : List YC) : Nat -> List YC × Nat × Bool
 | 0 => (o, 0, true)
 | i + 1 => if (sA g N l fs a m o i).2.2 = true then (if (i : Int) = a then sA g N l fs a m o i
   else if (i : Int) + 1 = a then ((sA g N l fs a m o i).1 ++ rp (N (l.getD i default)) (rws (g (l.getD i default)) fs (sA g N l fs a m o i).2.1 m).1,
    (sA g N l fs a m o i).2.1 + (if (rws (g (l.getD i default)) fs (sA g N l fs a m o i).2.1 m).2 = true then m else (rws (g (l.getD i default)) fs (sA g N l fs a m o i).2.1 m).1.length + 1),
    (rws (g (l.getD i default)) fs (sA g N l fs a m o i).2.1 m).2)
   else match g (l.getD i default) (fs.getD (sA g N l fs a m o i).2.1 default) with
    | some c => ((sA g N l fs a m o i).1 ++ c, (sA g N l fs a m o i).2.1 + 1, true)
    | none => (flM (l.getD i default) (sA g N l fs a m o i).1, (sA g N l fs a m o i).2.1 + 1, false))
  else sA g N l fs a m o i
section
variable {g : YS -> YS -> Option (List YC)} {N : YS -> List YC} {l fs : List YS} {a : Int} {m : Nat} {o : List YC}
def oA (g : YS -> YS -> Option (List YC)) (N : YS -> List YC) (l fs : List YS) (a : Int) (m : Nat) (o : List YC) (i : Nat) : List YC := (sA g N l fs a m o i).1
def kA (g : YS -> YS -> Option (List YC)) (N : YS -> List YC) (l fs : List YS) (a : Int) (m : Nat) (o : List YC) (i : Nat) : Nat := (sA g N l fs a m o i).2.1
def bA (g : YS -> YS -> Option (List YC)) (N : YS -> List YC) (l fs : List YS) (a : Int) (m : Nat) (o : List YC) (i : Nat) : Bool := (sA g N l fs a m o i).2.2
theorem Y1hq : oA g N l fs a m o 0 = o /\ kA g N l fs a m o 0 = 0 /\ bA g N l fs a m o 0 = true := ⟨rfl, rfl, rfl⟩
theorem Y17m {i : Nat} (h : bA g N l fs a m o i = true) (e : (i : Int) = a) : oA g N l fs a m o (i + 1) = oA g N l fs a m o i /\ kA g N l fs a m o (i + 1) = kA g N l fs a m o i /\ bA g N l fs a m o (i + 1) = true := by
 have e1 : sA g N l fs a m o (i + 1) = sA g N l fs a m o i := by
  have h' : (sA g N l fs a m o i).2.2 = true := h
  simp only [sA]; rw [if_pos h', if_pos e]
 unfold oA kA bA at *; rw [e1]; exact ⟨rfl, rfl, h⟩
theorem Y13j {i : Nat} (h : bA g N l fs a m o i = true) (e : ¬ (i : Int) = a) (e2 : ¬ (i : Int) + 1 = a) {c : Option (List YC)} (hc : g (l.getD i default) (fs.getD (kA g N l fs a m o i) default) = c) :
  oA g N l fs a m o (i + 1) = c.elim (flM (l.getD i default) (oA g N l fs a m o i)) (fun c => oA g N l fs a m o i ++ c) /\ kA g N l fs a m o (i + 1) = kA g N l fs a m o i + 1 /\ bA g N l fs a m o (i + 1) = c.isSome := by
 have h' : (sA g N l fs a m o i).2.2 = true := h
 have hc' : g (l.getD i default) (fs.getD (sA g N l fs a m o i).2.1 default) = c := hc
 cases c with
 | some c =>
  have e1 : sA g N l fs a m o (i + 1) = ((sA g N l fs a m o i).1 ++ c, (sA g N l fs a m o i).2.1 + 1, true) := by
   simp only [sA]; rw [if_pos h', if_neg e, if_neg e2, hc']
  unfold oA kA bA; rw [e1]; exact ⟨rfl, rfl, rfl⟩
 | none =>
  have e1 : sA g N l fs a m o (i + 1) = (flM (l.getD i default) (sA g N l fs a m o i).1, (sA g N l fs a m o i).2.1 + 1, false) := by
   simp only [sA]; rw [if_pos h', if_neg e, if_neg e2, hc']
  unfold oA kA bA; rw [e1]; exact ⟨rfl, rfl, rfl⟩
theorem Y1cs {i : Nat} (h : bA g N l fs a m o i = true) (e2 : (i : Int) + 1 = a) {k : Nat} (hk : kA g N l fs a m o i = k) {R : List (List YC) × Bool} (hR : rws (g (l.getD i default)) fs k m = R) :
    oA g N l fs a m o (i + 1) = oA g N l fs a m o i ++ rp (N (l.getD i default)) R.1 /\ kA g N l fs a m o (i + 1) = k + (if R.2 = true then m else R.1.length + 1) /\ bA g N l fs a m o (i + 1) = R.2 := by
  subst hk; subst hR
  have e1 : sA g N l fs a m o (i + 1) = ((sA g N l fs a m o i).1 ++ rp (N (l.getD i default)) (rws (g (l.getD i default)) fs (sA g N l fs a m o i).2.1 m).1,
        (sA g N l fs a m o i).2.1 + (if (rws (g (l.getD i default)) fs (sA g N l fs a m o i).2.1 m).2 = true then m else (rws (g (l.getD i default)) fs (sA g N l fs a m o i).2.1 m).1.length + 1),
        (rws (g (l.getD i default)) fs (sA g N l fs a m o i).2.1 m).2) := by
    have h' : (sA g N l fs a m o i).2.2 = true := h
    simp only [sA]; rw [if_pos h', if_neg (by omega), if_pos e2]
  unfold oA kA bA; rw [e1]; exact ⟨rfl, rfl, rfl⟩
theorem Y174 {i : Nat} (h : bA g N l fs a m o i = false) : ∀ n, sA g N l fs a m o (i + n) = sA g N l fs a m o i
 | 0 => rfl
 | n + 1 => by
  have ih := Y174 h n
  rw [<- Nat.add_assoc]
  have h' : (sA g N l fs a m o i).2.2 = false := h
  simp only [sA, ih, h']
  simp
theorem Y1c8 {i n : Nat} (h : bA g N l fs a m o i = false) (hn : i <= n) : oA g N l fs a m o n = oA g N l fs a m o i /\ kA g N l fs a m o n = kA g N l fs a m o i /\ bA g N l fs a m o n = false := by
 have := Y174 h (n - i)
 rw [show i + (n - i) = n by omega] at this
 unfold oA kA bA at *; rw [this]; exact ⟨rfl, rfl, h⟩
end
def kF (a : Int) (m i : Nat) : Int := if a < 0 ∨ (i : Int) < a then i else if (i : Int) = a then a - 1 + m else (i : Int) - 2 + m
section
variable {M : YS -> YS -> Bool} {H : YS -> Bool} {A : List YS -> Int} {l fs : List YS} {a : Int} {m : Nat} {o : List YC}
theorem Y18t (ha : 0 <= a -> 1 <= a /\ a < l.length /\ (fs.length : Int) = l.length - 2 + m) (hb : a < 0 -> fs.length = l.length) : ∀ i, i <= l.length -> (bA (mt M H A) (fun x => nm H A x 1) l fs a m o i = true ->
      (kA (mt M H A) (fun x => nm H A x 1) l fs a m o i : Int) = kF a m i /\ ∃ c, oA (mt M H A) (fun x => nm H A x 1) l fs a m o i = o ++ c /\ c.length <= Yhe Yho (l.take i) /\
        mts M H A l 0 a m fs = (mts M H A (l.drop i) i a m (fs.drop (kA (mt M H A) (fun x => nm H A x 1) l fs a m o i))).map (c ++ ·)) /\
    (bA (mt M H A) (fun x => nm H A x 1) l fs a m o i = false -> mts M H A l 0 a m fs = none)
  | 0, _ => ⟨fun _ => ⟨by simp [kF, kA, sA]; omega, [], by simp [oA, sA], by simp, by simp [kA, sA]⟩, fun h => by cases h⟩
  | i + 1, hi => by
    obtain ⟨ih1, ih2⟩ := Y18t ha hb i (by omega)
    have hil : i < l.length := by omega
    have hdrop := Yj4 hil
    have hsum : Yhe Yho (l.take (i + 1)) = Yhe Yho (l.take i) + Yho (l.getD i default) := by rw [Yi2 hil, Ykw]; rfl
    cases hbi : bA (mt M H A) (fun x => nm H A x 1) l fs a m o i with
    | false =>
      have e := Y1c8 hbi (Nat.le_succ i)
      refine ⟨fun h => ?_, fun _ => ih2 hbi⟩
      rw [e.2.2] at h; cases h
    | true =>
      obtain ⟨hk, c, hc1, hc2, hc3⟩ := ih1 hbi
      by_cases e : (i : Int) = a
      · obtain ⟨s1, s2, s3⟩ := Y17m hbi e
        refine ⟨fun _ => ⟨?_, c, ?_, ?_, ?_⟩, fun h => by rw [s3] at h; cases h⟩
        · rw [s2, hk]; unfold kF; rw [if_neg (by omega), if_pos e, if_neg (by omega), if_neg (by omega)]; omega
        · rw [s1, hc1]
        · omega
        · rw [hc3, s2, hdrop]
          simp only [mts, if_pos e]
          congr 1
      · by_cases e2 : (i : Int) + 1 = a
        · obtain ⟨s1, s2, s3⟩ := Y1cs hbi e2 rfl rfl
          have hkl : kA (mt M H A) (fun x => nm H A x 1) l fs a m o i + m <= fs.length := by
            have := ha (by omega)
            unfold kF at hk; rw [if_pos (by omega)] at hk; omega
          have hr := Yzt (g := mt M H A (l.getD i default)) m hkl
          have hstep : mts M H A (l.drop i) i a m (fs.drop (kA (mt M H A) (fun x => nm H A x 1) l fs a m o i)) = match mtr (mt M H A (l.getD i default)) ((fs.drop (kA (mt M H A) (fun x => nm H A x 1) l fs a m o i)).take m) with
              | none => none
              | some R => match mts M H A (l.drop (i + 1)) (i + 1) a m (fs.drop (kA (mt M H A) (fun x => nm H A x 1) l fs a m o i + m)) with
                | none => none
                | some c => some (rp (nm H A (l.getD i default) 1) R ++ c) := by
            rw [hdrop]
            simp only [mts, if_neg e, if_pos e2, List.drop_drop]
          refine ⟨fun h => ?_, fun h => ?_⟩
          · rw [s3] at h
            rw [if_pos h] at hr s2
            refine ⟨?_, c ++ rp (nm H A (l.getD i default) 1) _, by rw [s1, hc1, List.append_assoc], ?_, ?_⟩
            · rw [s2]; unfold kF at hk ⊢; rw [if_pos (by omega)] at hk; rw [if_neg (by omega), if_pos (by omega)]; omega
            · rw [List.length_append, Ymj, hsum]
              have := Ys5 H A (l.getD i default) 1
              omega
            · rw [hc3, hstep, hr, s2]
              simp only [Int.natCast_add, Int.natCast_one]
              cases mts M H A (l.drop (i + 1)) ((i : Int) + 1) a m (fs.drop (kA (mt M H A) (fun x => nm H A x 1) l fs a m o i + m)) <;> simp
          · rw [s3] at h
            rw [if_neg (by rw [h]; simp)] at hr
            rw [hc3, hstep, hr]; rfl
        · have hstep : mts M H A (l.drop i) i a m (fs.drop (kA (mt M H A) (fun x => nm H A x 1) l fs a m o i)) = match mt M H A (l.getD i default) (fs.getD (kA (mt M H A) (fun x => nm H A x 1) l fs a m o i) default) with
              | none => none
              | some c => match mts M H A (l.drop (i + 1)) (i + 1) a m (fs.drop (kA (mt M H A) (fun x => nm H A x 1) l fs a m o i + 1)) with
                | none => none
                | some d => some (c ++ d) := by
            rw [hdrop]
            have eg : (fs.drop (kA (mt M H A) (fun x => nm H A x 1) l fs a m o i)).getD 0 default = fs.getD (kA (mt M H A) (fun x => nm H A x 1) l fs a m o i) default := by simp [List.getD_eq_getElem?_getD, List.getElem?_drop]
            simp only [mts, if_neg e, if_neg e2, List.drop_drop, eg]
          cases hg : mt M H A (l.getD i default) (fs.getD (kA (mt M H A) (fun x => nm H A x 1) l fs a m o i) default) with
          | none =>
            obtain ⟨s1, s2, s3⟩ := Y13j hbi e e2 hg
            refine ⟨fun h => ?_, fun h => ?_⟩
            · rw [s3] at h; cases h
            · rw [hc3, hstep, hg]; rfl
          | some c' =>
            obtain ⟨s1, s2, s3⟩ := Y13j hbi e e2 hg
            refine ⟨fun _ => ⟨?_, c ++ c', by rw [s1]; simp only [Option.elim]; rw [hc1, List.append_assoc], ?_, ?_⟩, fun h => by rw [s3] at h; cases h⟩
            · rw [s2]; unfold kF at hk ⊢
              by_cases ea : a < 0 ∨ (i : Int) < a
              · rw [if_pos ea] at hk; rw [if_pos (by omega)]; omega
              · rw [if_neg ea, if_neg e] at hk; rw [if_neg (by omega), if_neg (by omega)]; omega
            · rw [List.length_append, hsum, Y13u _ _ _ hg]
              have := Ys5 H A (l.getD i default) 0
              omega
            · rw [hc3, hstep, hg, s2]
              simp only [Int.natCast_add, Int.natCast_one]
              cases mts M H A (l.drop (i + 1)) ((i : Int) + 1) a m (fs.drop (kA (mt M H A) (fun x => nm H A x 1) l fs a m o i + 1)) <;> simp
end
end Go.Proofs.YtpnaoendfpaodaaGreat
end
section
namespace Go.Proofs.YtpnaoendfpaodaaGreat
open Go Ab
abbrev gS (B : List YB) (Ls : List YS) : YS -> YS -> Option (List YC) := mt (mng B) (Yim Ls) aS
def nS (Ls : List YS) (x : YS) : List YC := nm (Yim Ls) aS x 1
def eV (Ls : List YS) (x : YS) : List YC := (vrS Ls x 0 []).getD []
def smO (p : YS) (o : List YC) (r : Option (List YC)) : List YC := match r with | some c => o ++ c | none => flM p o
def mS (p f : YS) : Nat := (Yms (aS p.items) p.items.length f.items.length).toNat
def oS (B : List YB) (Ls : List YS) (p f : YS) (o : List YC) (i : Nat) : List YC := oA (gS B Ls) (fun x => nm (Yim Ls) aS x 1) p.items f.items (aS p.items) (mS p f) o i
def kS (B : List YB) (Ls : List YS) (p f : YS) (o : List YC) (i : Nat) : Nat := kA (gS B Ls) (fun x => nm (Yim Ls) aS x 1) p.items f.items (aS p.items) (mS p f) o i
def bS (B : List YB) (Ls : List YS) (p f : YS) (o : List YC) (i : Nat) : Bool := bA (gS B Ls) (fun x => nm (Yim Ls) aS x 1) p.items f.items (aS p.items) (mS p f) o i
def rS (B : List YB) (Ls : List YS) (p f : YS) (o : List YC) (i t : Nat) : List (List YC) := (rws (gS B Ls (p.items.getD i default)) f.items (kS B Ls p f o i) t).1
def qS (B : List YB) (Ls : List YS) (p f : YS) (o : List YC) (i t : Nat) : Bool := (rws (gS B Ls (p.items.getD i default)) f.items (kS B Ls p f o i) t).2
def fS (p f : YS) : Bool := Yqh (aS p.items) p.items f
def Yis (V : List YC) (i : Nat) : List YC := (V.take i).map upC ++ V.drop i
abbrev Ypv (x : YC) : List Cell := [cI x.name.kind, cI x.name.number, cS x.name.text, .any, .any, cI x.depth, cI x.form.kind, cI x.form.number, cS x.form.text, .any, .any, .any]
def Yjk (V : List YC) (R : List (List YC)) (c : List YC) (u : Nat) : List YC := (rp V (R ++ [c])).take u ++ (rp V R).drop u
theorem Y1fx (l : List YS) : aS l = -1 ∨ ∃ a : Nat, aS l = a /\ 1 <= a /\ a < l.length := by
 unfold aS
 split
 ·rename_i h
  rcases Yyd l l.length (Nat.le_refl _) h with h1 | ⟨m, h1, h2, h3, _⟩
  ·exact .inl h1.1
  ·exact .inr ⟨m, h3, h1, h2⟩
 ·exact .inl rfl
theorem Yvf (p f : YS) : fS p f = (decide (f.kind = 0) && decide (0 <= Yms (aS p.items) p.items.length f.items.length) && (decide (0 <= aS p.items) || decide (f.items.length = p.items.length))) := rfl
theorem Y1ge {p f : YS} (h : fS p f = true) : f.kind = 0 /\ (aS p.items = -1 /\ f.items.length = p.items.length /\ mS p f = 0 ∨ ∃ a : Nat, aS p.items = a /\ 1 <= a /\ a < p.items.length /\ (f.items.length : Int) = p.items.length - 2 + mS p f) := by
 rw [Yvf] at h
 simp only [Bool.and_eq_true, Bool.or_eq_true, decide_eq_true_eq] at h
 obtain ⟨⟨h1, h2⟩, h3⟩ := h
 refine ⟨h1, ?_⟩
 rcases Y1fx p.items with ha | ⟨a, ha, ha1, ha2⟩
 ·refine .inl ⟨ha, by rcases h3 with h3 | h3 <;> omega, ?_⟩
  unfold mS Yms; rw [ha, if_neg (by omega)]; rfl
 ·refine .inr ⟨a, ha, ha1, ha2, ?_⟩
  have e : Yms (aS p.items) p.items.length f.items.length = (f.items.length : Int) - ((p.items.length : Int) - 2) := if_pos (by omega)
  rw [e] at h2
  unfold mS; rw [e]; omega
section
variable {B : List YB} {Ls : List YS} {p f : YS} {o : List YC}
theorem Y1gz : oS B Ls p f o 0 = o /\ kS B Ls p f o 0 = 0 /\ bS B Ls p f o 0 = true := Y1hq
theorem Y1h6 {i : Nat} (h : bS B Ls p f o i = true) (e : (i : Int) = aS p.items) : oS B Ls p f o (i + 1) = oS B Ls p f o i /\ kS B Ls p f o (i + 1) = kS B Ls p f o i /\ bS B Ls p f o (i + 1) = true := Y17m h e
theorem Y1js {i : Nat} (h : bS B Ls p f o i = true) (e : ¬ (i : Int) = aS p.items) (e2 : ¬ (i : Int) + 1 = aS p.items) :
    oS B Ls p f o (i + 1) = smO (p.items.getD i default) (oS B Ls p f o i) (gS B Ls (p.items.getD i default) (f.items.getD (kS B Ls p f o i) default)) /\ kS B Ls p f o (i + 1) = kS B Ls p f o i + 1 /\ bS B Ls p f o (i + 1) = (gS B Ls (p.items.getD i default) (f.items.getD (kS B Ls p f o i) default)).isSome := by
  obtain ⟨h1, h2, h3⟩ := Y13j (N := fun x => nm (Yim Ls) aS x 1) h e e2 rfl
  refine ⟨?_, h2, h3⟩
  have e3 : oS B Ls p f o (i + 1) = _ := h1
  rw [e3]
  unfold smO
  cases hg : gS B Ls (p.items.getD i default) (f.items.getD (kS B Ls p f o i) default) with
  | none => have hg' : gS B Ls (p.items.getD i default) (f.items.getD (kA (gS B Ls) (fun x => nm (Yim Ls) aS x 1) p.items f.items (aS p.items) (mS p f) o i) default) = none := hg
            rw [hg']; rfl
  | some c => have hg' : gS B Ls (p.items.getD i default) (f.items.getD (kA (gS B Ls) (fun x => nm (Yim Ls) aS x 1) p.items f.items (aS p.items) (mS p f) o i) default) = some c := hg
              rw [hg']; rfl
theorem Y1jo {i : Nat} (h : bS B Ls p f o i = true) (e2 : (i : Int) + 1 = aS p.items) :
  oS B Ls p f o (i + 1) = oS B Ls p f o i ++ rp (nS Ls (p.items.getD i default)) (rS B Ls p f o i (mS p f)) /\ kS B Ls p f o (i + 1) = kS B Ls p f o i + (if qS B Ls p f o i (mS p f) = true then mS p f else (rS B Ls p f o i (mS p f)).length + 1) /\ bS B Ls p f o (i + 1) = qS B Ls p f o i (mS p f) :=
 Y1cs (N := fun x => nm (Yim Ls) aS x 1) h e2 rfl rfl
theorem Y1ie {i n : Nat} (h : bS B Ls p f o i = false) (hn : i <= n) : oS B Ls p f o n = oS B Ls p f o i /\ bS B Ls p f o n = false :=
 have t := Y1c8 (N := fun x => nm (Yim Ls) aS x 1) h hn
 ⟨t.1, t.2.2⟩
theorem Y183 (hf : fS p f = true) (i : Nat) (hi : i <= p.items.length) : (bS B Ls p f o i = true -> (kS B Ls p f o i : Int) = kF (aS p.items) (mS p f) i /\ ∃ c, oS B Ls p f o i = o ++ c /\ c.length <= Yhe Yho (p.items.take i) /\
        mts (mng B) (Yim Ls) aS p.items 0 (aS p.items) (mS p f) f.items = (mts (mng B) (Yim Ls) aS (p.items.drop i) i (aS p.items) (mS p f) (f.items.drop (kS B Ls p f o i))).map (c ++ ·)) /\
    (bS B Ls p f o i = false -> mts (mng B) (Yim Ls) aS p.items 0 (aS p.items) (mS p f) f.items = none) := by
  have h := Y1ge hf
  refine Y18t (fun ha => ?_) (fun ha => ?_) i hi
  · rcases h.2 with h | ⟨a, h⟩ <;> omega
  · rcases h.2 with h | ⟨a, h⟩ <;> omega
theorem Y1lt (hf : fS p f = true) {i : Nat} (hi : i < p.items.length) (h : bS B Ls p f o i = true) : (oS B Ls p f o i).length + Yho (p.items.getD i default) + 1 <= o.length + Yho p /\
  (¬ (i : Int) = aS p.items -> ¬ (i : Int) + 1 = aS p.items -> kS B Ls p f o i < f.items.length) /\ ((i : Int) + 1 = aS p.items -> kS B Ls p f o i + mS p f <= f.items.length) := by
 obtain ⟨hk, c, hc, hl, _⟩ := (Y183 (B := B) (Ls := Ls) (o := o) hf i (by omega)).1 h
 have hs := Yl6 hi
 have hfs := Y1ge hf
 refine ⟨by rw [hc, List.length_append]; omega, fun h1 h2 => ?_, fun h1 => ?_⟩
 ·unfold kF at hk
  rcases hfs.2 with h3 | ⟨a, h3⟩
  ·rw [if_pos (by omega)] at hk; omega
  ·split at hk
   ·omega
   ·first | omega | (rw [if_neg h1] at hk; omega)
 ·unfold kF at hk
  rcases hfs.2 with h3 | ⟨a, h3⟩
  ·omega
  ·rw [if_pos (by omega)] at hk; omega
theorem Y17a (h0 : p.kind = 0) : gS B Ls p f = if fS p f = true then mts (mng B) (Yim Ls) aS p.items 0 (aS p.items) (mS p f) f.items else none := by
 unfold gS; rw [Yle, if_neg (by omega), if_pos h0]; rfl
theorem Y1j9 (h0 : p.kind = 0) (hf : fS p f = false) : gS B Ls p f = none := by rw [Y17a h0, hf]; rfl
theorem Y1ch (h0 : p.kind = 0) (hf : fS p f = true) : (gS B Ls p f).isSome = bS B Ls p f o p.items.length /\ smO p o (gS B Ls p f) = if bS B Ls p f o p.items.length = true then oS B Ls p f o p.items.length else [] := by
 rw [Y17a h0, if_pos hf]
 have hm := Y183 (B := B) (Ls := Ls) (o := o) hf _ (Nat.le_refl _)
 cases hb : bS B Ls p f o p.items.length with
 | false => rw [hm.2 hb]; exact ⟨rfl, by unfold smO flM; rw [if_pos h0]; rfl⟩
 | true =>
  obtain ⟨_, c, hc, _, he⟩ := hm.1 hb
  rw [he, hc, List.drop_length]
  simp only [mts, Option.map, smO, List.append_nil]
  exact ⟨rfl, rfl⟩
theorem Yvi (x : YS) (r : Option (List YC)) : smO x [] r = r.getD [] := by cases r <;> simp [smO, flM]
theorem Ypb {x : YS} (h : x.kind = 0) : smO x o none = [] := if_pos h
theorem Y1bt {x y : YS} {c : List YC} (h : gS B Ls x y = some c) : c.length = (nS Ls x).length := by
 rw [nS, Y18n]; exact Y13u _ _ _ h
theorem Y101 (x : YS) : (nS Ls x).length <= Yho x := Ys5 _ _ _ _
theorem Y1lk (hg : good Ls p) (h0 : p.kind = 0) {i : Nat} (hi : i < p.items.length) (ha : (i : Int) + 1 = aS p.items) : nS Ls (p.items.getD i default) = (eV Ls (p.items.getD i default)).map upC /\ (vrS Ls (p.items.getD i default) 0 []) = some (eV Ls (p.items.getD i default)) := by
 obtain ⟨h1, _⟩ := Yt3 hg h0 hi ha
 have e : eV Ls (p.items.getD i default) = nm (Yim Ls) aS (p.items.getD i default) 0 := by unfold eV; rw [h1]; rfl
 refine ⟨?_, by rw [e, h1]⟩
 rw [e]
 exact Y1cn _ _ _ 0
theorem Y1bv (V : List YC) : Yis V 0 = V := by simp [Yis]
theorem Y1fd {V : List YC} {i : Nat} (h : V.length <= i) : Yis V i = V.map upC := by simp [Yis, List.take_of_length_le h, List.drop_eq_nil_of_le h]
theorem Y1eo (V : List YC) (i : Nat) : (Yis V i).length = V.length := by simp [Yis, List.length_take, List.length_drop]; omega
theorem Y157 {V : List YC} {i : Nat} (h : i < V.length) : (Yis V i).getD i default = V.getD i default := by
 simp [Yis, List.getD_eq_getElem?_getD, List.getElem?_append, List.length_take, List.getElem?_drop, Nat.min_eq_left (Nat.le_of_lt h)]
theorem Y1da {V : List YC} {i : Nat} (h : i < V.length) : (Yis V i).set i (upC (V.getD i default)) = Yis V (i + 1) := by
 apply List.ext_getElem?
 intro j
 simp only [Yis, List.getElem?_set, List.getElem?_append, List.length_map, List.length_take, List.length_append, List.length_drop, List.getElem?_map, List.getElem?_take, List.getElem?_drop, List.getD_eq_getElem?_getD, Nat.min_eq_left (Nat.le_of_lt h), Nat.min_eq_left (show i + 1 <= V.length from h)]
 by_cases h1 : i = j
 ·subst h1; simp [h]; omega
 ·rw [if_neg h1]
  by_cases h2 : j < i
  ·rw [if_pos h2, if_pos h2, if_pos (by omega), if_pos (by omega)]
  ·rw [if_neg h2, if_neg (by omega)]; congr 1; omega
theorem Y1m4 (x : YC) : (⟨x.name, x.depth, x.form, x.each⟩ : YC) = x := by cases x; rfl
theorem Y1c4 (V : List YC) : rp V [] = V := by
 apply List.ext_getElem?
 intro j
 simp only [rp, List.getElem?_map, List.getElem?_range', List.map_nil, List.append_nil, List.range_eq_range']
 by_cases h : j < V.length
 ·simp [h]; exact Y1m4 _
 ·simp [h]
theorem Y15p {V : List YC} {R : List (List YC)} {i : Nat} (h : i < V.length) : (rp V R).getD i default = ⟨(V.getD i default).name, (V.getD i default).depth, (V.getD i default).form, (V.getD i default).each ++ R.map fun c => c.getD i default⟩ := by
 simp [rp, List.getD_eq_getElem?_getD, List.getElem?_range, h]
theorem Yv4 (V : List YC) (R : List (List YC)) (c : List YC) : Yjk V R c 0 = rp V R := by simp [Yjk]
theorem Y14y {V : List YC} {R : List (List YC)} {c : List YC} {u : Nat} (h : V.length <= u) : Yjk V R c u = rp V (R ++ [c]) := by
 unfold Yjk; rw [List.take_of_length_le (by rw [Ymj]; exact h), List.drop_eq_nil_of_le (by rw [Ymj]; exact h), List.append_nil]
theorem Y144 (V : List YC) (R : List (List YC)) (c : List YC) (u : Nat) : (Yjk V R c u).length = V.length := by
 simp only [Yjk, List.length_append, List.length_take, List.length_drop, Ymj]; omega
theorem Y152 {V : List YC} {R : List (List YC)} {c : List YC} {u : Nat} (h : u < V.length) : (Yjk V R c u).getD u default = (rp V R).getD u default := by
 simp [Yjk, List.getD_eq_getElem?_getD, List.getElem?_append, List.length_take, List.getElem?_drop, Ymj, Nat.min_eq_left (Nat.le_of_lt h)]
theorem Y1cj {V : List YC} {R : List (List YC)} {c : List YC} {u : Nat} (h : u < V.length) : (Yjk V R c u).set u ⟨((rp V R).getD u default).name, ((rp V R).getD u default).depth, ((rp V R).getD u default).form, ((rp V R).getD u default).each ++ [c.getD u default]⟩ = Yjk V R c (u + 1) := by
 have e : (⟨((rp V R).getD u default).name, ((rp V R).getD u default).depth, ((rp V R).getD u default).form, ((rp V R).getD u default).each ++ [c.getD u default]⟩ : YC) = (rp V (R ++ [c])).getD u default := by
  rw [Y15p h, Y15p h]; simp
 rw [e]
 apply List.ext_getElem?
 intro j
 have hl := Ymj V R
 have hl2 := Ymj V (R ++ [c])
 simp only [Yjk, List.getElem?_set, List.getElem?_append, List.length_take, List.length_append, List.length_drop, List.getElem?_take, List.getElem?_drop, List.getD_eq_getElem?_getD, hl, hl2, Nat.min_eq_left (Nat.le_of_lt h), Nat.min_eq_left (show u + 1 <= V.length from h)]
 by_cases h1 : u = j
 ·subst h1
  rw [if_pos rfl, if_pos (by omega), if_pos (by omega)]
  have : (rp V (R ++ [c]))[u]? = some ((rp V (R ++ [c]))[u]'(by omega)) := List.getElem?_eq_getElem _
  rw [this, if_pos (Nat.lt_succ_self u)]; rfl
 ·rw [if_neg h1]
  by_cases h2 : j < u
  ·rw [if_pos h2, if_pos h2, if_pos (by omega), if_pos (by omega)]
  ·rw [if_neg h2, if_neg (by omega)]; congr 1; omega
abbrev Yyn (L : List YC) (u : Nat) : List (List Cell) := (L.take u).map Ypv ++ (L.drop u).map Yhf
theorem Y1ca {L : List YC} {u : Nat} (h : u < L.length) : (Yyn L u)[u]? = some (Yhf (L.getD u default)) := by
 simp [Yyn, List.getD_eq_getElem?_getD, List.getElem?_append, List.length_take, List.getElem?_drop, h, Nat.min_eq_left (Nat.le_of_lt h)]
theorem Y1a7 {L : List YC} {u : Nat} (h : u < L.length) : (Yyn L u).set u (Ypv (L.getD u default)) = Yyn L (u + 1) := by
 apply List.ext_getElem?
 intro j
 simp only [Yyn, List.getElem?_set, List.getElem?_append, List.length_map, List.length_take, List.length_append, List.length_drop, List.getElem?_map, List.getElem?_take, List.getElem?_drop, List.getD_eq_getElem?_getD, Nat.min_eq_left (Nat.le_of_lt h), Nat.min_eq_left (show u + 1 <= L.length from h)]
 by_cases h1 : u = j
 ·subst h1; simp [h]; omega
 ·rw [if_neg h1]
  by_cases h2 : j < u
  ·rw [if_pos h2, if_pos h2, if_pos (by omega), if_pos (by omega)]
  ·rw [if_neg h2, if_neg (by omega)]; congr 2; omega
theorem Y1ht (i : Nat) : rS B Ls p f o i 0 = [] /\ qS B Ls p f o i 0 = true := ⟨rfl, rfl⟩
theorem Y106 {i t : Nat} {c : List YC} (h : qS B Ls p f o i t = true) (hc : gS B Ls (p.items.getD i default) (f.items.getD (kS B Ls p f o i + t) default) = some c) : rS B Ls p f o i (t + 1) = rS B Ls p f o i t ++ [c] /\ qS B Ls p f o i (t + 1) = true := by
 unfold rS qS; rw [Ywo h hc]; exact ⟨rfl, rfl⟩
theorem Yzd {i t : Nat} (h : qS B Ls p f o i t = true) (hc : gS B Ls (p.items.getD i default) (f.items.getD (kS B Ls p f o i + t) default) = none) : rS B Ls p f o i (t + 1) = rS B Ls p f o i t /\ qS B Ls p f o i (t + 1) = false := by
 unfold rS qS; rw [Yxk h hc]; exact ⟨rfl, rfl⟩
theorem Y1db {i t : Nat} (h : qS B Ls p f o i t = true) : (rS B Ls p f o i t).length = t := Yzo t h
theorem Y1hw {i t : Nat} (h : qS B Ls p f o i t = false) {n : Nat} (hn : t <= n) : rS B Ls p f o i n = rS B Ls p f o i t /\ qS B Ls p f o i n = false := by
 have e := Ytf h (n - t)
 rw [show t + (n - t) = n by omega] at e
 unfold rS qS at *; rw [e]; exact ⟨rfl, h⟩
end
def Yn3 (B : List YB) (Ls : List YS) (p f : YS) (o : List YC) (s t : Nat) : List YC := (gS B Ls (p.items.getD s default) (f.items.getD (kS B Ls p f o s + t) default)).getD []
theorem Y1hm {B : List YB} {Ls : List YS} {p f : YS} {o : List YC} (hk : p.kind = 1) (h : Yj1 p = true) : gS B Ls p f = some [] /\ smO p o (gS B Ls p f) = o := by
 have e : gS B Ls p f = some [] := by unfold gS; rw [Yle, if_pos hk, if_pos h]
 rw [e]; exact ⟨rfl, List.append_nil o⟩
theorem Y15h {B : List YB} {Ls : List YS} {p f : YS} {o : List YC} (hk : p.kind = 1) (h : Yj1 p = false) (h2 : Yim Ls p = true) : (gS B Ls p f).isSome = (decide (f.kind = 1) && mng B p f) /\ smO p o (gS B Ls p f) = o := by
 have e : gS B Ls p f = if f.kind = 1 /\ mng B p f = true then some [] else none := by unfold gS; rw [Yle, if_pos hk, if_neg (by simp [h]), if_pos h2]
 rw [e]
 by_cases hc : f.kind = 1 /\ mng B p f = true
 ·rw [if_pos hc]; exact ⟨by simp [hc.1, hc.2], List.append_nil o⟩
 ·rw [if_neg hc]
  refine ⟨?_, by unfold smO flM; simp only; rw [if_neg (by omega)]⟩
  cases h3 : decide (f.kind = 1) <;> cases h4 : mng B p f <;> simp_all
theorem Y1br {B : List YB} {Ls : List YS} {p f : YS} {o : List YC} (hk : p.kind = 1) (h : Yj1 p = false) (h2 : Yim Ls p = false) : gS B Ls p f = some [Yr8 p f] /\ smO p o (gS B Ls p f) = o ++ [Yr8 p f] := by
 have e : gS B Ls p f = some [Yr8 p f] := by unfold gS; rw [Yle, if_pos hk, if_neg (by simp [h]), if_neg (by simp [h2])]
 rw [e]; exact ⟨rfl, rfl⟩
theorem Ytb {B : List YB} {Ls : List YS} {p f : YS} {o : List YC} (hk : ¬ p.kind = 1) (h0 : ¬ p.kind = 0) : (gS B Ls p f).isSome = (decide (f.kind = p.kind) && decide (f.number = p.number) && decide (f.text = p.text)) /\ smO p o (gS B Ls p f) = o := by
 have e : gS B Ls p f = if f.kind = p.kind /\ f.number = p.number /\ f.text = p.text then some [] else none := by unfold gS; rw [Yle, if_neg hk, if_neg h0]
 rw [e]
 by_cases hc : f.kind = p.kind /\ f.number = p.number /\ f.text = p.text
 ·rw [if_pos hc]; exact ⟨by simp [hc.1, hc.2.1, hc.2.2], List.append_nil o⟩
 ·rw [if_neg hc]
  refine ⟨?_, by unfold smO flM; simp only; rw [if_neg h0]⟩
  symm; simp only [Option.isSome]; rw [Bool.eq_false_iff]; simp only [ne_eq, Bool.and_eq_true, decide_eq_true_eq]; rintro ⟨⟨a, b⟩, c⟩; exact hc ⟨a, b, c⟩
theorem Y11p (o : List YC) (p f : YS) : o.map Yhf ++ [[cI p.kind, cI p.number, cS p.text, Cell.list (List.map Yhh p.scopes), Cell.list (List.map Yhd p.items), cI 0, cI f.kind, cI f.number, cS f.text, Cell.list (List.map Yhh f.scopes), Cell.list (List.map Yhd f.items), Cell.list []]] = (o ++ [Yr8 p f]).map Yhf :=
 Yhi (C := Yhf) o (Yr8 p f)
theorem Y1hf {Ls : List YS} {p : YS} (hp : Yi7 p = true) (hv : (vrS Ls p 0 []).isSome = true) : good Ls p /\ Yho p <= 2000 /\ Yi6 p <= 40 := by
 simp only [Yi7, Bool.and_eq_true, decide_eq_true_eq] at hp
 obtain ⟨r, hr⟩ := Option.isSome_iff_exists.1 hv
 exact ⟨⟨hp.2, 0, [], r, by omega, hr⟩, hp.1.1, hp.1.2⟩
end Go.Proofs.YtpnaoendfpaodaaGreat
end
section
namespace Go.Proofs.YtpnaoendfpaodaaGreat
open Go Ab
def alM (g : YS -> YS -> Option (List YC)) : List YS -> List YS -> Option (List YC)
 | [], _ => some []
 | x :: r, fs => match g x (fs.getD 0 default) with
  | none => none
  | some c => match alM g r (fs.drop 1) with
   | none => none
   | some d => some (c ++ d)
def alO (o : List YC) (r : Option (List YC)) : List YC := match r with | none => [] | some c => o ++ c
theorem Ytr (g : YS -> YS -> Option (List YC)) : ∀ (A C : List YS) (fs : List YS), alM g (A ++ C) fs = match alM g A fs with | none => none | some c => match alM g C (fs.drop A.length) with | none => none | some d => some (c ++ d)
 | [], C, fs => by
  simp only [List.nil_append, alM, List.length_nil, List.drop_zero]
  cases alM g C fs <;> rfl
 | y :: A, C, fs => by
  have e : (fs.drop 1).drop A.length = fs.drop (y :: A).length := by rw [List.drop_drop, List.length_cons, Nat.add_comm]
  simp only [List.cons_append, alM, Ytr g A C, e]
  cases g y (fs.getD 0 default) with
  | none => rfl
  | some c =>
   cases alM g A (fs.drop 1) with
   | none => rfl
   | some d =>
    cases alM g C (fs.drop (y :: A).length) with
    | none => rfl
    | some d2 => simp [List.append_assoc]
theorem Y1du {g : YS -> YS -> Option (List YC)} {ps fs : List YS} {k : Nat} (h : k < ps.length) : alM g (ps.take (k + 1)) fs = match alM g (ps.take k) fs with | none => none | some c => (match g (ps.getD k default) (fs.getD k default) with | none => none | some d => some (c ++ d)) := by
 have e : (fs.drop k).getD 0 default = fs.getD k default := by simp [List.getD_eq_getElem?_getD]
 rw [Yi2 h, Ytr, List.length_take, Nat.min_eq_left (Nat.le_of_lt h)]
 simp only [alM, e]
 cases alM g (ps.take k) fs with
 | none => rfl
 | some c => cases g (ps.getD k default) (fs.getD k default) <;> simp
theorem Y1hh {g : YS -> YS -> Option (List YC)} {ps fs : List YS} {o : List YC} : alO o (alM g (ps.take 0) fs) = o /\ (alM g (ps.take 0) fs).isSome = true := by
 simp [alM, alO]
theorem Y1ky {g : YS -> YS -> Option (List YC)} {ps fs : List YS} {o : List YC} {k : Nat} (h : k < ps.length) (hs : (alM g (ps.take k) fs).isSome = true) :
  (alM g (ps.take (k + 1)) fs).isSome = (g (ps.getD k default) (fs.getD k default)).isSome /\ ((g (ps.getD k default) (fs.getD k default)).isSome = true -> alO o (alM g (ps.take (k + 1)) fs) = smO (ps.getD k default) (alO o (alM g (ps.take k) fs)) (g (ps.getD k default) (fs.getD k default))) := by
 obtain ⟨c, hc⟩ := Option.isSome_iff_exists.1 hs
 rw [Y1du h, hc]
 cases g (ps.getD k default) (fs.getD k default) with
 | none => exact ⟨rfl, fun h => by cases h⟩
 | some d => exact ⟨rfl, fun _ => by simp [alO, smO, List.append_assoc]⟩
theorem Y1hx {g : YS -> YS -> Option (List YC)} {ps fs : List YS} {k : Nat} (h : (alM g (ps.take k) fs).isSome = false) : alM g ps fs = none := by
 have e := Ytr g (ps.take k) (ps.drop k) fs
 rw [List.take_append_drop] at e
 cases h2 : alM g (ps.take k) fs with
 | none => rw [h2] at e; exact e
 | some c => rw [h2] at h; cases h
theorem Y1im {g : YS -> YS -> Option (List YC)} {ps fs : List YS} {k : Nat} (h : ps.length <= k) : alM g (ps.take k) fs = alM g ps fs := by rw [List.take_of_length_le h]
theorem Y172 {g : YS -> YS -> Option (List YC)} : ∀ (ps : List YS) (fs : List YS) (c : List YC), (∀ x ∈ ps, ∀ f c, g x f = some c -> c.length <= Yho x) -> alM g ps fs = some c -> c.length <= Yhe Yho ps
 | [], fs, c, _, e => by simp only [alM, Option.some.injEq] at e; subst e; simp [Yhe]
 | x :: r, fs, c, h, e => by
  simp only [alM] at e
  simp only [Yhe]
  split at e
  ·cases e
  ·rename_i c1 h1
   split at e
   ·cases e
   ·rename_i c2 h2
    simp only [Option.some.injEq] at e; subst e
    have := Y172 r _ _ (fun y hy => h y (List.mem_cons_of_mem _ hy)) h2
    have := h x List.mem_cons_self _ _ h1
    rw [List.length_append]; omega
theorem Y13o (g : YS -> YS -> Option (List YC)) : ∀ (ps fs : List YS) (n : Nat), ps.length <= n -> alM g ps (fs.take n) = alM g ps fs
 | [], _, _, _ => rfl
 | x :: r, fs, n, h => by
  cases n with
  | zero => simp at h
  | succ n =>
   have h' : r.length <= n := by simpa using h
   cases fs with
   | nil => simp [alM]
   | cons f fs => simp only [alM, List.take_succ_cons, List.drop_succ_cons, List.drop_zero, List.getD_cons_zero, Y13o g r fs n h']
theorem Yuw {M : YS -> YS -> Bool} {H : YS -> Bool} {A : List YS -> Int} {a : Int} {m : Nat} : ∀ (l : List YS) (i : Int) (fs : List YS), (∀ k : Nat, k < l.length -> i + k ≠ a /\ i + k + 1 ≠ a) -> mts M H A l i a m fs = alM (mt M H A) l fs
 | [], _, _, _ => by simp [mts, alM]
 | x :: r, i, fs, h => by
  have h0 := h 0 (by simp)
  have ih := Yuw (M := M) (H := H) (A := A) (a := a) (m := m) r (i + 1) (fs.drop 1) (fun k hk => by
   have := h (k + 1) (by simp; omega)
   rw [show i + ((k + 1 : Nat) : Int) = i + 1 + (k : Int) by omega] at this; exact this)
  simp only [mts, alM]
  rw [if_neg (by simpa using h0.1), if_neg (by simpa using h0.2), ih]
  all_goals rfl
theorem Y17p {M : YS -> YS -> Bool} {H : YS -> Bool} {A : List YS -> Int} {a : Int} {m : Nat} {x y : YS} {post : List YS} : ∀ (pre : List YS) (i : Int) (fs : List YS), i + pre.length + 1 = a ->
  mts M H A (pre ++ x :: y :: post) i a m fs = match alM (mt M H A) pre fs with | none => none | some c1 => (match mtr (mt M H A x) ((fs.drop pre.length).take m) with | none => none | some R => (match alM (mt M H A) post (fs.drop (pre.length + m)) with | none => none | some c2 => some (c1 ++ (rp (nm H A x 1) R ++ c2))))
 | [], i, fs, h => by
  have h1 : ¬ i = a := by simp at h; omega
  have h2 : i + 1 = a := by simpa using h
  have e := Yuw (M := M) (H := H) (A := A) (a := a) (m := m) post (i + 1 + 1) (fs.drop m) (fun k _ => by omega)
  simp only [List.nil_append, mts, alM, List.length_nil, List.drop_zero, Nat.zero_add]
  rw [if_neg h1, if_pos h2, if_pos h2, e]
  all_goals rfl
 | z :: pre, i, fs, h => by
  have hl : ((z :: pre).length : Int) = pre.length + 1 := by simp
  have h1 : ¬ i = a := by omega
  have h2 : ¬ i + 1 = a := by omega
  have ih := Y17p (M := M) (H := H) (A := A) (a := a) (m := m) (x := x) (y := y) (post := post) pre (i + 1) (fs.drop 1) (by omega)
  have e1 : (fs.drop 1).drop pre.length = fs.drop (z :: pre).length := by rw [List.drop_drop, List.length_cons, Nat.add_comm]
  have e2 : (fs.drop 1).drop (pre.length + m) = fs.drop ((z :: pre).length + m) := by rw [List.drop_drop, List.length_cons]; congr 1; omega
  simp only [List.cons_append, mts, alM]
  rw [if_neg h1, if_neg h2, ih, e1, e2]
  cases mt M H A z (fs.getD 0 default) with
  | none => rfl
  | some c =>
   simp only
   cases alM (mt M H A) pre (fs.drop 1) with
   | none => rfl
   | some c1 =>
    simp only
    cases mtr (mt M H A x) ((fs.drop (z :: pre).length).take m) with
    | none => rfl
    | some R =>
     simp only
     cases alM (mt M H A) post (fs.drop ((z :: pre).length + m)) with
     | none => rfl
     | some c2 => simp [List.append_assoc]
def gI (B : List YB) (Ls : List YS) : YS -> YS -> Option (List YC) := mt (mng B) (Yki Ls) atI
def nI (Ls : List YS) (x : YS) : List YC := nm (Yki Ls) atI x 1
def aT (p : YS) : Nat := (atI p.items - 1).toNat
def xI (p : YS) : YS := p.items.getD (aT p) default
def mI2 (p f : YS) : Nat := ((f.items.length : Int) - ((p.items.length : Int) - 2)).toNat
def rI (B : List YB) (Ls : List YS) (p f : YS) (t : Nat) : List (List YC) := (rws (gI B Ls (xI p)) f.items (aT p) t).1
def qI (B : List YB) (Ls : List YS) (p f : YS) (t : Nat) : Bool := (rws (gI B Ls (xI p)) f.items (aT p) t).2
section
variable {B : List YB} {Ls : List YS} {p f : YS} {o : List YC}
theorem Y1ci {x y : YS} {c : List YC} (h : gI B Ls x y = some c) : c.length = (nI Ls x).length := by
 rw [nI, Y18n]; exact Y13u _ _ _ h
theorem Yzh (x : YS) : (nI Ls x).length <= Yho x := Ys5 _ _ _ _
theorem Y1h3 {ps fs : List YS} {c : List YC} (h : alM (gI B Ls) ps fs = some c) : c.length <= Yhe Yho ps :=
 Y172 ps fs c (fun x _ f c e => by have := Y1ci e; have := Yzh (Ls := Ls) x; omega) h
theorem Y16w {ps fs : List YS} : (alO o (alM (gI B Ls) ps fs)).length <= o.length + Yhe Yho ps := by
 cases h : alM (gI B Ls) ps fs with
 | none => simp [alO]
 | some c => have := Y1h3 h; simp only [alO, List.length_append]; omega
theorem Yw0 (h0 : p.kind = 0) : gI B Ls p f = if Yqh (atI p.items) p.items f = true then mts (mng B) (Yki Ls) atI p.items 0 (atI p.items) (Yms (atI p.items) p.items.length f.items.length).toNat f.items else none := by
 unfold gI; rw [Yle, if_neg (by omega), if_pos h0]
theorem Y1gk (h0 : p.kind = 0) (hf : ¬ f.kind = 0) : gI B Ls p f = none := by
 rw [Yw0 h0, if_neg (by simp [Yqh, hf])]
theorem Y18u (h0 : p.kind = 0) (hf : f.kind = 0) (ha : atI p.items < 0) : gI B Ls p f = if p.items.length = f.items.length then alM (gI B Ls) p.items f.items else none := by
 have e : Yqh (atI p.items) p.items f = decide (f.items.length = p.items.length) := by
  simp only [Yqh, Yms, if_neg (show ¬ 0 <= atI p.items by omega), hf]; simp; omega
 rw [Yw0 h0, e, Yuw _ _ _ (fun k _ => by omega)]
 by_cases h : p.items.length = f.items.length
 ·rw [if_pos h, if_pos (by simp [h])]; rfl
 ·rw [if_neg h, if_neg (by simp; omega)]
theorem Y1kg (h0 : p.kind = 0) (hf : f.kind = 0) (ha : 0 <= atI p.items) (hm : (f.items.length : Int) - ((p.items.length : Int) - 2) < 0) : gI B Ls p f = none := by
 have e : Yqh (atI p.items) p.items f = false := by
  simp only [Yqh, Yms, if_pos ha]; simp; omega
 rw [Yw0 h0, e]; rfl
theorem Y105 (h0 : p.kind = 0) (hf : f.kind = 0) (ha : 1 <= atI p.items) (hl : atI p.items < p.items.length) (hm : 0 <= (f.items.length : Int) - ((p.items.length : Int) - 2)) :
  gI B Ls p f = match alM (gI B Ls) (p.items.take (aT p)) (f.items.take (aT p)) with | none => none | some c1 => if qI B Ls p f (mI2 p f) = true then (match alM (gI B Ls) (p.items.drop (aT p + 2)) (f.items.drop (aT p + mI2 p f)) with | none => none | some c2 => some (c1 ++ (rp (nI Ls (xI p)) (rI B Ls p f (mI2 p f)) ++ c2))) else none := by
 have e : Yqh (atI p.items) p.items f = true := by
  simp only [Yqh, Yms, if_pos (show 0 <= atI p.items by omega), hf]; simp; omega
 have ea : (aT p : Int) + 1 = atI p.items := by unfold aT; omega
 have em : (Yms (atI p.items) p.items.length f.items.length).toNat = mI2 p f := by unfold Yms mI2; rw [if_pos (by omega)]
 have h1 : aT p < p.items.length := by omega
 have h2 : aT p + 1 < p.items.length := by omega
 have es : p.items = p.items.take (aT p) ++ (xI p :: p.items.getD (aT p + 1) default :: p.items.drop (aT p + 2)) := by
  have e1 : p.items.drop (aT p) = xI p :: p.items.drop (aT p + 1) := by
   rw [List.drop_eq_getElem_cons h1]; simp [xI, h1]
  have e2 : p.items.drop (aT p + 1) = p.items.getD (aT p + 1) default :: p.items.drop (aT p + 2) := by
   rw [List.drop_eq_getElem_cons h2]; simp [h2]
  rw [<- e2, <- e1, List.take_append_drop]
 have el : (p.items.take (aT p)).length = aT p := by rw [List.length_take, Nat.min_eq_left (by omega)]
 have er : aT p + mI2 p f <= f.items.length := by unfold mI2; omega
 rw [Yw0 h0, e, if_pos rfl, em]
 have k := Y17p (M := mng B) (H := Yki Ls) (A := atI) (a := atI p.items) (m := mI2 p f) (x := xI p) (y := p.items.getD (aT p + 1) default) (post := p.items.drop (aT p + 2)) (p.items.take (aT p)) 0 f.items (by rw [el]; omega)
 rw [<- es, el] at k
 rw [k, Yzt (mI2 p f) er, Y13o _ _ _ _ (by rw [el]; exact Nat.le_refl _)]
 show (match alM (gI B Ls) _ _ with | none => none | some c1 => _) = _
 cases alM (gI B Ls) (p.items.take (aT p)) f.items with
 | none => rfl
 | some c1 =>
  show (match (if qI B Ls p f (mI2 p f) = true then some (rI B Ls p f (mI2 p f)) else none) with | none => none | some R => _) = _
  by_cases hq : qI B Ls p f (mI2 p f) = true
  ·rw [if_pos hq]; simp only [hq, if_pos]; rfl
  ·rw [if_neg hq]; simp only; rw [if_neg hq]
theorem Y1jv (h0 : p.kind = 0) (hf : f.kind = 0) (ha : 1 <= atI p.items) (hl : atI p.items < p.items.length) (hm : 0 <= (f.items.length : Int) - ((p.items.length : Int) - 2)) (h : (alM (gI B Ls) (p.items.take (aT p)) (f.items.take (aT p))).isSome = false) : gI B Ls p f = none := by
 rw [Y105 h0 hf ha hl hm]
 cases h2 : alM (gI B Ls) (p.items.take (aT p)) (f.items.take (aT p)) with
 | none => rfl
 | some c => rw [h2] at h; cases h
theorem Y1hp {t : Nat} (h : qI B Ls p f t = false) {n : Nat} (hn : t <= n) : qI B Ls p f n = false := by
 have e := Ytf h (n - t)
 rw [show t + (n - t) = n by omega] at e
 unfold qI at *; rw [e]; exact h
theorem Y1eu (h0 : p.kind = 0) (hf : f.kind = 0) (ha : 1 <= atI p.items) (hl : atI p.items < p.items.length) (hm : 0 <= (f.items.length : Int) - ((p.items.length : Int) - 2)) {t : Nat} (ht : t <= mI2 p f) (h : qI B Ls p f t = false) : gI B Ls p f = none := by
 rw [Y105 h0 hf ha hl hm, Y1hp h ht]
 cases alM (gI B Ls) (p.items.take (aT p)) (f.items.take (aT p)) <;> rfl
theorem Y1hk (h0 : p.kind = 0) (hf : f.kind = 0) (ha : 1 <= atI p.items) (hl : atI p.items < p.items.length) (hm : 0 <= (f.items.length : Int) - ((p.items.length : Int) - 2)) (h : (alM (gI B Ls) (p.items.take (aT p)) (f.items.take (aT p))).isSome = true) (hq : qI B Ls p f (mI2 p f) = true) :
  (gI B Ls p f).isSome = (alM (gI B Ls) (p.items.drop (aT p + 2)) (f.items.drop (aT p + mI2 p f))).isSome /\ smO p o (gI B Ls p f) = alO (alO o (alM (gI B Ls) (p.items.take (aT p)) (f.items.take (aT p))) ++ rp (nI Ls (xI p)) (rI B Ls p f (mI2 p f))) (alM (gI B Ls) (p.items.drop (aT p + 2)) (f.items.drop (aT p + mI2 p f))) := by
 obtain ⟨c, hc⟩ := Option.isSome_iff_exists.1 h
 rw [Y105 h0 hf ha hl hm, hc]
 simp only [hq, ↓reduceIte]
 cases alM (gI B Ls) (p.items.drop (aT p + 2)) (f.items.drop (aT p + mI2 p f)) with
 | none => exact ⟨rfl, by simp [smO, flM, h0, alO]⟩
 | some d => exact ⟨rfl, by simp [smO, alO, List.append_assoc]⟩
theorem Y1e4 (h0 : p.kind = 0) (hf : f.kind = 0) (ha : atI p.items < 0) (hl : p.items.length = f.items.length) : (gI B Ls p f).isSome = (alM (gI B Ls) p.items f.items).isSome /\ smO p o (gI B Ls p f) = alO o (alM (gI B Ls) p.items f.items) := by
 rw [Y18u h0 hf ha, if_pos hl]
 cases alM (gI B Ls) p.items f.items with
 | none => exact ⟨rfl, by simp [smO, flM, h0, alO]⟩
 | some d => exact ⟨rfl, rfl⟩
theorem Y1h9 {t : Nat} {c : List YC} (h : qI B Ls p f t = true) (hc : gI B Ls (xI p) (f.items.getD (aT p + t) default) = some c) : rI B Ls p f (t + 1) = rI B Ls p f t ++ [c] /\ qI B Ls p f (t + 1) = true := by
 unfold rI qI; rw [Ywo h hc]; exact ⟨rfl, rfl⟩
theorem Y1i7 {t : Nat} (h : qI B Ls p f t = true) (hc : gI B Ls (xI p) (f.items.getD (aT p + t) default) = none) : qI B Ls p f (t + 1) = false := by
 unfold qI; rw [Yxk h hc]
theorem Y1jn {t : Nat} (h : qI B Ls p f t = true) : (rI B Ls p f t).length = t := Yzo t h
def Ymb (B : List YB) (Ls : List YS) (p f : YS) (t : Nat) : List YC := (gI B Ls (xI p) (f.items.getD (aT p + t) default)).getD []
theorem Ypp (hg : good Ls p) (h0 : p.kind = 0) : atI p.items = aS p.items /\ (atI p.items = -1 ∨ 1 <= atI p.items /\ atI p.items < p.items.length) := by
 have hs := Yt6 hg h0
 have e1 : aS p.items = atI p.items := by rw [(Y15c hs).1]; exact if_pos hs
 refine ⟨e1.symm, ?_⟩
 rcases Y1fx p.items with h | ⟨a, h1, h2, h3⟩
 ·exact .inl (by rw [<- e1]; exact h)
 ·exact .inr ⟨by omega, by omega⟩
theorem Yt9 (ha : 1 <= atI p.items) (hl : atI p.items < p.items.length) : (aT p : Int) = atI p.items - 1 /\ aT p + 2 <= p.items.length := by
 unfold aT; omega
theorem Y17g (hg : good Ls p) (h0 : p.kind = 0) (ha : 1 <= atI p.items) (hl : atI p.items < p.items.length) : good Ls (xI p) /\ xI p ∈ p.items := by
 have h := Yt9 ha hl
 have e := Ypp hg h0
 exact ⟨Yoc hg h0 (k := aT p) (by omega) (by omega), Yhn (by omega)⟩
theorem Y1lv (hL : Ls.all Yke = true) (hg : good Ls p) (h0 : p.kind = 0) (ha : 1 <= atI p.items) (hl : atI p.items < p.items.length) : vrI Ls (xI p) 1 [] = some (nI Ls (xI p)) := by
 have h := Yt9 ha hl
 have e := Ypp hg h0
 have hL' := List.all_eq_true.1 hL
 have hx := Y17g hg h0 ha hl
 have h1 := (Yt3 hg h0 (k := aT p) (by omega) (by omega)).2
 have h2 := (Y177 hL' (xI p) hx.1.1 1 [] (by simp)).1
 have h3 := (Y176 (M := fun _ _ => true) hL' (xI p) hx.1).2 1
 rw [h2]
 show vrS Ls (p.items.getD (aT p) default) 1 [] = some (nm (Yki Ls) atI (xI p) 1)
 rw [h1]; exact congrArg some h3
theorem Ysz {L : List YS} {z : YS} (h : z ∈ L) : ∃ k, k < L.length /\ L.getD k default = z := by
 obtain ⟨k, hk, e⟩ := List.mem_iff_getElem.1 h
 exact ⟨k, hk, by simp [hk, e]⟩
theorem Y1f6 (hg : good Ls p) (h0 : p.kind = 0) (ha : 1 <= atI p.items) (hl : atI p.items < p.items.length) (hd : Yi6 p <= 40) : ∀ z ∈ p.items.take (aT p), good Ls z /\ Yi6 z <= 40 := by
 intro z hz
 have h := Yt9 ha hl
 have e := Ypp hg h0
 obtain ⟨k, hk, rfl⟩ := Ysz hz
 rw [List.length_take] at hk
 have e2 : (p.items.take (aT p)).getD k default = p.items.getD k default := by
  simp only [List.getD_eq_getElem?_getD, List.getElem?_take]; rw [if_pos (by omega)]
 rw [e2]
 have := Yl5 (t := p) (k := k) (by omega)
 exact ⟨Yoc hg h0 (by omega) (by omega), by omega⟩
theorem Y1bf (hg : good Ls p) (h0 : p.kind = 0) (ha : 1 <= atI p.items) (hl : atI p.items < p.items.length) (hd : Yi6 p <= 40) : ∀ z ∈ p.items.drop (aT p + 2), good Ls z /\ Yi6 z <= 40 := by
 intro z hz
 have h := Yt9 ha hl
 have e := Ypp hg h0
 obtain ⟨k, hk, rfl⟩ := Ysz hz
 rw [List.length_drop] at hk
 have e2 : (p.items.drop (aT p + 2)).getD k default = p.items.getD (aT p + 2 + k) default := by
  simp only [List.getD_eq_getElem?_getD, List.getElem?_drop]
 rw [e2]
 have := Yl5 (t := p) (k := aT p + 2 + k) (by omega)
 exact ⟨Yoc hg h0 (by omega) (by omega), by omega⟩
theorem Y1dl (hg : good Ls p) (h0 : p.kind = 0) (ha : atI p.items < 0) (hd : Yi6 p <= 40) : ∀ z ∈ p.items, good Ls z /\ Yi6 z <= 40 := by
 intro z hz
 have e := Ypp hg h0
 obtain ⟨k, hk, rfl⟩ := Ysz hz
 have := Yl5 (t := p) (k := k) hk
 exact ⟨Yoc hg h0 hk (by omega), by omega⟩
theorem Yui {α : Type} (c : α -> Nat) (L : List α) (i : Nat) : Yhe c (L.drop i) <= Yhe c L := by
 have e : Yhe c (L.take i ++ L.drop i) = Yhe c L := by rw [List.take_append_drop]
 rw [Ykw] at e; omega
theorem Y14z (ha : 1 <= atI p.items) (hl : atI p.items < p.items.length) : Yhe Yho (p.items.take (aT p)) + Yho (xI p) + Yhe Yho (p.items.drop (aT p + 2)) + 1 <= Yho p /\ Yhe wY (p.items.take (aT p)) <= wY p /\ wY (xI p) <= wY p /\ Yhe wY (p.items.drop (aT p + 2)) <= wY p /\ Yhe wY p.items <= wY p := by
 have h := Yt9 ha hl
 have g1 := Yid p
 have g2 := Yjc p
 have g3 := Yiw wY p.items (aT p)
 have g4 := Yui wY p.items (aT p + 2)
 have g5 := Yi9 wY (Yhn (L := p.items) (k := aT p) (by omega))
 have g6 := Yyo Yho (L := p.items) (k := aT p) (by omega)
 have g7 := Yyo Yho (L := p.items) (k := aT p + 1) (by omega)
 have e : Yhe Yho (p.items.take (aT p) ++ p.items.drop (aT p)) = Yhe Yho p.items := by rw [List.take_append_drop]
 rw [Ykw] at e
 refine ⟨?_, by omega, ?_, by omega, by omega⟩
 ·show _ + Yho (p.items.getD (aT p) default) + _ + 1 <= _
  rw [show aT p + 1 + 1 = aT p + 2 by omega] at g7; omega
 ·show wY (p.items.getD (aT p) default) <= _
  omega
def fI (p f : YS) : Bool := decide (p.kind = 0) && decide (f.kind = 0) && decide (1 <= atI p.items) && decide (atI p.items < p.items.length) && decide (0 <= (f.items.length : Int) - ((p.items.length : Int) - 2))
theorem Ymc (h : fI p f = true) : p.kind = 0 /\ f.kind = 0 /\ 1 <= atI p.items /\ atI p.items < p.items.length /\ 0 <= (f.items.length : Int) - ((p.items.length : Int) - 2) := by
 simp only [fI, Bool.and_eq_true, decide_eq_true_eq] at h; exact ⟨h.1.1.1.1, h.1.1.1.2, h.1.1.2, h.1.2, h.2⟩
theorem Y1lp (h0 : p.kind = 0) (hf : f.kind = 0) (ha : 0 <= atI p.items) (hg : good Ls p) (hm : 0 <= (f.items.length : Int) - ((p.items.length : Int) - 2)) : fI p f = true := by
 have e := (Ypp hg h0).2
 simp only [fI, Bool.and_eq_true, decide_eq_true_eq]; omega
theorem Yqg (h : fI p f = true) : (aT p : Int) = atI p.items - 1 /\ aT p + 2 <= p.items.length /\ (mI2 p f : Int) = (f.items.length : Int) - ((p.items.length : Int) - 2) /\ aT p + mI2 p f <= f.items.length := by
 obtain ⟨_, _, ha, hl, hm⟩ := Ymc h
 have := Yt9 ha hl
 unfold mI2; omega
theorem Y1ka (h : fI p f = true) (hg : good Ls p) : good Ls (xI p) /\ xI p ∈ p.items /\ Yi6 (xI p) + 1 <= Yi6 p /\ Yho (xI p) <= Yho p /\ wY (xI p) <= wY p := by
 obtain ⟨h0, _, ha, hl, _⟩ := Ymc h
 have h1 := Y17g hg h0 ha hl
 have h2 := Y14z ha hl
 have h3 := Yl5 (t := p) (k := aT p) (by have := Yt9 ha hl; omega)
 refine ⟨h1.1, h1.2, ?_, by omega, by omega⟩
 show Yi6 (p.items.getD (aT p) default) + 1 <= _
 omega
theorem Y1iy (h : fI p f = true) (hn : (alM (gI B Ls) (p.items.take (aT p)) (f.items.take (aT p))).isSome = false) : gI B Ls p f = none := by
 obtain ⟨h0, hf, ha, hl, hm⟩ := Ymc h
 exact Y1jv h0 hf ha hl hm hn
theorem Y1f8 (h : fI p f = true) {t : Nat} (ht : t <= mI2 p f) (hq : qI B Ls p f t = false) : gI B Ls p f = none := by
 obtain ⟨h0, hf, ha, hl, hm⟩ := Ymc h
 exact Y1eu h0 hf ha hl hm ht hq
theorem Y1gq (h : fI p f = true) (hn : (alM (gI B Ls) (p.items.take (aT p)) (f.items.take (aT p))).isSome = true) (hq : qI B Ls p f (mI2 p f) = true) :
  (gI B Ls p f).isSome = (alM (gI B Ls) (p.items.drop (aT p + 2)) (f.items.drop (aT p + mI2 p f))).isSome /\ smO p o (gI B Ls p f) = alO (alO o (alM (gI B Ls) (p.items.take (aT p)) (f.items.take (aT p))) ++ rp (nI Ls (xI p)) (rI B Ls p f (mI2 p f))) (alM (gI B Ls) (p.items.drop (aT p + 2)) (f.items.drop (aT p + mI2 p f))) := by
 obtain ⟨h0, hf, ha, hl, hm⟩ := Ymc h
 exact Y1hk h0 hf ha hl hm hn hq
theorem Y1k6 (h0 : p.kind = 0) (hf : f.kind = 0) (ha : 0 <= atI p.items) (hm : (f.items.length : Int) - ((p.items.length : Int) - 2) < 0) : gI B Ls p f = none := Y1kg h0 hf ha hm
theorem Y1lh (hL : Ls.all Yke = true) (hg : good Ls p) (h : fI p f = true) : vrI Ls (xI p) 1 [] = some (nI Ls (xI p)) := by
 obtain ⟨h0, _, ha, hl, _⟩ := Ymc h
 exact Y1lv hL hg h0 ha hl
theorem Y1e3 (h0 : p.kind = 0) (hf : f.kind = 0) (ha : atI p.items < 0) (hl : ¬ p.items.length = f.items.length) : gI B Ls p f = none := by rw [Y18u h0 hf ha, if_neg hl]
theorem Y1en {t : Nat} (h : (gI B Ls (xI p) (f.items.getD (aT p + t) default)).isSome = true) : (Ymb B Ls p f t).length = (nI Ls (xI p)).length := by
 obtain ⟨c, hc⟩ := Option.isSome_iff_exists.1 h
 unfold Ymb; rw [hc]; exact Y1ci hc
theorem Y18s {t : Nat} (hq : qI B Ls p f t = true) (h : (gI B Ls (xI p) (f.items.getD (aT p + t) default)).isSome = true) : rI B Ls p f t ++ [Ymb B Ls p f t] = rI B Ls p f (t + 1) /\ qI B Ls p f (t + 1) = true := by
 obtain ⟨c, hc⟩ := Option.isSome_iff_exists.1 h
 have e := Y1h9 hq hc
 have e2 : Ymb B Ls p f t = c := by unfold Ymb; rw [hc]; rfl
 rw [e2]; exact ⟨e.1.symm, e.2⟩
theorem Y1hg (hk : p.kind = 1) (h : Yj1 p = true) : gI B Ls p f = some [] /\ smO p o (gI B Ls p f) = o := by
 have e : gI B Ls p f = some [] := by unfold gI; rw [Yle, if_pos hk, if_pos h]
 rw [e]; exact ⟨rfl, List.append_nil o⟩
theorem Y1j3 (hk : p.kind = 1) (h : Yj1 p = false) (h2 : Yki Ls p = true) : (gI B Ls p f).isSome = (decide (f.kind = 1) && mng B p f) /\ smO p o (gI B Ls p f) = o := by
 have e : gI B Ls p f = if f.kind = 1 /\ mng B p f = true then some [] else none := by unfold gI; rw [Yle, if_pos hk, if_neg (by simp [h]), if_pos h2]
 rw [e]
 by_cases hc : f.kind = 1 /\ mng B p f = true
 ·rw [if_pos hc]; exact ⟨by simp [hc.1, hc.2], List.append_nil o⟩
 ·rw [if_neg hc]
  refine ⟨?_, by unfold smO flM; simp only; rw [if_neg (by omega)]⟩
  cases h3 : decide (f.kind = 1) <;> cases h4 : mng B p f <;> simp_all
theorem Y1il (hk : p.kind = 1) (h : Yj1 p = false) (h2 : Yki Ls p = false) : gI B Ls p f = some [Yr8 p f] /\ smO p o (gI B Ls p f) = o ++ [Yr8 p f] := by
 have e : gI B Ls p f = some [Yr8 p f] := by unfold gI; rw [Yle, if_pos hk, if_neg (by simp [h]), if_neg (by simp [h2])]
 rw [e]; exact ⟨rfl, rfl⟩
theorem Y13f (hk : ¬ p.kind = 1) (h0 : ¬ p.kind = 0) : (gI B Ls p f).isSome = (decide (f.kind = p.kind) && decide (f.number = p.number) && decide (f.text = p.text)) /\ smO p o (gI B Ls p f) = o := by
 have e : gI B Ls p f = if f.kind = p.kind /\ f.number = p.number /\ f.text = p.text then some [] else none := by unfold gI; rw [Yle, if_neg hk, if_neg h0]
 rw [e]
 by_cases hc : f.kind = p.kind /\ f.number = p.number /\ f.text = p.text
 ·rw [if_pos hc]; exact ⟨by simp [hc.1, hc.2.1, hc.2.2], List.append_nil o⟩
 ·rw [if_neg hc]
  refine ⟨?_, by unfold smO flM; simp only; rw [if_neg h0]⟩
  symm; simp only [Option.isSome]; rw [Bool.eq_false_iff]; simp only [ne_eq, Bool.and_eq_true, decide_eq_true_eq]; rintro ⟨⟨a, b⟩, c⟩; exact hc ⟨a, b, c⟩
end
end Go.Proofs.YtpnaoendfpaodaaGreat
end
section
namespace Go.Proofs.YtpnaoendfpaodaaGreat
open Go Ab
theorem zw {p : Prop} (h : p := by first | with_reducible rfl | exact True.intro | omega | with_reducible assumption | with_reducible exact dT ‹_› | with_reducible exact dF ‹_› | ((first | refine Yjw ?_ | refine Ykm ?_ rfl); (first | omega | (simp only [std]; omega) | grind))) : p := h
theorem Y12n {c : List YC} {u : Nat} (h : u < c.length) : ((c.take u).map Ypv ++ (c.drop u).map Yhf)[u]? = some (Yi1 (c.getD u default)) := by
 rw [<- Row.eq (C := Yhf) (F := Yi1)]; exact Y1ca h
theorem Y14j {c : List YC} {u : Nat} (h : u < c.length) : ((c.take u).map Ypv ++ (c.drop u).map Yhf).set u (Ypv (c.getD u default)) = (c.take (u + 1)).map Ypv ++ (c.drop (u + 1)).map Yhf := Y1a7 h
theorem Y17y {c : List YC} {u : Nat} (h : u < c.length) : u < (c.take u).length + (c.drop u).length := by
 rw [List.length_take, List.length_drop]; omega
theorem Y156 (L : List YC) (u : Nat) (x : YC) (y : List Cell) (h : Yi1 x = y) : (L.map Yhf).set u y = (L.set u x).map Yhf := by
 subst h; rw [List.map_set, Row.eq (C := Yhf) (F := Yi1)]
theorem Y1ep {α : Type} (l : List α) (z v : α) : (l ++ [z]).set l.length v = l ++ [v] := by
 rw [List.set_append_right _ _ (Nat.le_refl _)]; simp
theorem Y1fv (E : List YC) (z : List Cell) (x : YC) : (E.map Yhf ++ [z]).set E.length (Yi1 x) = (E ++ [x]).map Yhf := by
 have := Y1ep (E.map Yhf) z (Yi1 x)
 rw [List.length_map] at this
 rw [this]; exact Yhi (C := Yhf) E x
theorem Y11w {V : List YC} {R : List (List YC)} {c : List YC} {u : Nat} (z : List Cell) (h : u < V.length) :
  ((Yjk V R c u).map Yhf).set u [cI ((Yjk V R c u).getD u default).name.kind, cI ((Yjk V R c u).getD u default).name.number, cS ((Yjk V R c u).getD u default).name.text,
   Cell.list (List.map Yhh ((Yjk V R c u).getD u default).name.scopes), Cell.list (List.map Yhd ((Yjk V R c u).getD u default).name.items), cI ((Yjk V R c u).getD u default).depth,
   cI ((Yjk V R c u).getD u default).form.kind, cI ((Yjk V R c u).getD u default).form.number, cS ((Yjk V R c u).getD u default).form.text,
   Cell.list (List.map Yhh ((Yjk V R c u).getD u default).form.scopes), Cell.list (List.map Yhd ((Yjk V R c u).getD u default).form.items),
   Cell.list ((List.map Yhf ((Yjk V R c u).getD u default).each ++ [z]).set ((Yjk V R c u).getD u default).each.length (Yi1 (c.getD u default)))] = (Yjk V R c (u + 1)).map Yhf := by
 rw [Y1fv]
 have e := Y156 (Yjk V R c u) u ⟨((Yjk V R c u).getD u default).name, ((Yjk V R c u).getD u default).depth, ((Yjk V R c u).getD u default).form, ((Yjk V R c u).getD u default).each ++ [c.getD u default]⟩ _ rfl
 refine Eq.trans e ?_
 rw [Y152 h, Y1cj h]
theorem Y13y (H : YS -> Bool) (A : List YS -> Int) : ∀ (p : YS) (d : Int), ∀ y ∈ nm H A p d, y.each = [] := by
 intro p
 refine YS.ind (P := fun p => ∀ d, ∀ y ∈ nm H A p d, y.each = []) (fun p ih d y hy => ?_) p
 rw [Ymz] at hy
 split at hy
 ·split at hy
  ·cases hy
  ·rw [List.mem_singleton] at hy; subst hy; rfl
 ·split at hy
  ·have go : ∀ (l : List YS) (i a e : Int), (∀ x ∈ l, ∀ d, ∀ y ∈ nm H A x d, y.each = []) -> ∀ y ∈ nms H A l i a e, y.each = [] := by
    intro l
    induction l with
    | nil => intro i a e _ y hy; simp [nms] at hy
    | cons x r ihr =>
     intro i a e hl y hy
     rw [nms] at hy
     rcases List.mem_append.1 hy with hy | hy
     ·revert hy; repeat' split
      all_goals (intro hy; first | cases hy | exact hl x List.mem_cons_self _ y hy)
     ·exact ihr _ _ _ (fun z hz => hl z (List.mem_cons_of_mem _ hz)) y hy
   exact go p.items _ _ _ ih y hy
  ·cases hy
theorem Y165 {V : List YC} {R : List (List YC)} {c : List YC} {u : Nat} (hV : ∀ y ∈ V, y.each = []) (h : u < V.length) : ((Yjk V R c u).getD u default).each.length = R.length := by
 rw [Y152 h, Y15p h]
 simp only [List.length_append, List.length_map]
 rw [hV _ (Yhn h)]; simp
section
variable {B : List YB} {Ls : List YS} {p f : YS} {o : List YC} {s t u : Nat}
theorem Y1fm (h : (gS B Ls (p.items.getD s default) (f.items.getD (kS B Ls p f o s + t) default)).isSome = true) : (Yn3 B Ls p f o s t).length = (nS Ls (p.items.getD s default)).length := by
 obtain ⟨c, hc⟩ := Option.isSome_iff_exists.1 h
 unfold Yn3; rw [hc]; exact Y1bt hc
theorem Y1dd (hq : qS B Ls p f o s t = true) (h : ((gS B Ls (p.items.getD s default) (f.items.getD (kS B Ls p f o s + t) default)).isSome || decide (u = 0)) = true)
  (hc : (gS B Ls (p.items.getD s default) (f.items.getD (kS B Ls p f o s + t) default)).isSome = false ∨ (nS Ls (p.items.getD s default)).length <= u) :
  (Yjk (nS Ls (p.items.getD s default)) (rS B Ls p f o s t) (Yn3 B Ls p f o s t) u).map Yhf = (rp (nS Ls (p.items.getD s default)) (rS B Ls p f o s (t + 1))).map Yhf := by
 cases hg : gS B Ls (p.items.getD s default) (f.items.getD (kS B Ls p f o s + t) default) with
 | none =>
  rw [hg] at h
  have hu : u = 0 := by simpa using h
  rw [hu, Yv4, (Yzd hq hg).1]
 | some c =>
  rw [hg] at hc
  have hu : (nS Ls (p.items.getD s default)).length <= u := by simpa using hc
  have e1 : Yn3 B Ls p f o s t = c := by unfold Yn3; rw [hg]; rfl
  rw [Y14y hu, e1, (Y106 hq hg).1]
theorem Y1cx (hu : u < (nS Ls (p.items.getD s default)).length) : ((Yjk (nS Ls (p.items.getD s default)) (rS B Ls p f o s t) (Yn3 B Ls p f o s t) u).getD u default).each.length = (rS B Ls p f o s t).length :=
 Y165 (Y13y _ _ _ _) hu
end
section
variable {B : List YB} {Ls : List YS} {p f : YS} {o : List YC}
theorem Y1km (ha : 0 <= aS p.items) (hm : 0 <= (f.items.length : Int) - ((p.items.length : Int) - 2)) : (mS p f : Int) = (f.items.length : Int) - ((p.items.length : Int) - 2) := by
 unfold mS Yms; rw [if_pos ha]; omega
theorem Y1lb (ha : aS p.items < 0) : mS p f = 0 := by
 unfold mS Yms; rw [if_neg (by omega)]; rfl
theorem Y1m1 (hk : f.kind = 0) (ha : 0 <= aS p.items) (hm : 0 <= (f.items.length : Int) - ((p.items.length : Int) - 2)) : fS p f = true := by
 rw [Yvf]; unfold Yms; rw [if_pos ha]; simp only [hk, ha, hm, decide_true, Bool.true_or, Bool.and_true]
theorem Y1mb (hk : f.kind = 0) (ha : aS p.items < 0) (hm : f.items.length = p.items.length) : fS p f = true := by
 rw [Yvf]; unfold Yms; rw [if_neg (by omega)]; simp [hk, hm]
theorem Y14q (h0 : p.kind = 0) (h : fS p f = false) : smO p o (gS B Ls p f) = [] /\ (gS B Ls p f).isSome = false := by
 rw [Y1j9 h0 h]; exact ⟨Ypb h0, rfl⟩
theorem Y1l7 (h0 : p.kind = 0) (hk : ¬ f.kind = 0) : smO p o (gS B Ls p f) = [] /\ (gS B Ls p f).isSome = false := by
 refine Y14q h0 ?_
 rw [Yvf]; simp [hk]
theorem Y1m0 (h0 : p.kind = 0) (ha : 0 <= aS p.items) (hm : (f.items.length : Int) - ((p.items.length : Int) - 2) < 0) : smO p o (gS B Ls p f) = [] /\ (gS B Ls p f).isSome = false := by
 refine Y14q h0 ?_
 rw [Yvf]; unfold Yms; rw [if_pos ha]
 have : ¬ 0 <= (f.items.length : Int) - ((p.items.length : Int) - 2) := by omega
 simp only [this, decide_false, Bool.and_false, Bool.false_and]
theorem Y1kv (h0 : p.kind = 0) (ha : aS p.items < 0) (hm : ¬ f.items.length = p.items.length) : smO p o (gS B Ls p f) = [] /\ (gS B Ls p f).isSome = false := by
 refine Y14q h0 ?_
 rw [Yvf]
 have : ¬ 0 <= aS p.items := by omega
 simp only [this, hm, decide_false, Bool.or_false, Bool.and_false]
theorem Y1ko (h0 : p.kind = 0) (hf : fS p f = true) (hb : bS B Ls p f o p.items.length = true) : smO p o (gS B Ls p f) = oS B Ls p f o p.items.length /\ (gS B Ls p f).isSome = true := by
 have h := @Y1ch B Ls p f o h0 hf
 rw [if_pos hb] at h; exact ⟨h.2, h.1.trans hb⟩
theorem Y1l4 (h0 : p.kind = 0) (hf : fS p f = true) (hb : bS B Ls p f o p.items.length = false) : smO p o (gS B Ls p f) = [] /\ (gS B Ls p f).isSome = false := by
 have h := @Y1ch B Ls p f o h0 hf
 rw [if_neg (by rw [hb]; simp)] at h; exact ⟨h.2, h.1.trans hb⟩
end
section
variable {B : List YB} {Ls : List YS} {p f : YS} {t u : Nat}
theorem Y1c7 (hq : qI B Ls p f t = true) (h : (gI B Ls (xI p) (f.items.getD (aT p + t) default)).isSome = true) (hc : (nI Ls (xI p)).length <= u) :
  (Yjk (nI Ls (xI p)) (rI B Ls p f t) (Ymb B Ls p f t) u).map Yhf = (rp (nI Ls (xI p)) (rI B Ls p f (t + 1))).map Yhf := by
 rw [Y14y hc, (Y18s hq h).1]
theorem Y1b6 (hu : u < (nI Ls (xI p)).length) : ((Yjk (nI Ls (xI p)) (rI B Ls p f t) (Ymb B Ls p f t) u).getD u default).each.length = (rI B Ls p f t).length :=
 Y165 (Y13y _ _ _ _) hu
end
def atB (p : YS) (s : Nat) : Bool := decide (s < p.items.length) && decide ((s : Int) + 1 = aS p.items)
theorem Ysg {p : YS} {s : Nat} (h : atB p s = true) : s < p.items.length /\ (s : Int) + 1 = aS p.items := by
 simpa [atB] using h
theorem Y1ir {p : YS} {s : Nat} (h : s < p.items.length) (h2 : (s : Int) + 1 = aS p.items) : atB p s = true := by
 simp [atB, h, h2]
theorem Y12f (Ls : List YS) (x : YS) : (vrS Ls x 0 []).getD [] = eV Ls x := rfl
theorem Yz0 (l : List YS) : (if okS l = true then atS l else (-1 : Int)) = aS l := rfl
theorem Y1ek (H : YS -> Bool) (A : List YS -> Int) : ∀ (p : YS) (d : Int), ∀ y ∈ nm H A p d, d <= y.depth /\ y.depth <= d + Yi6 p := by
 intro p
 refine YS.ind (P := fun p => ∀ d, ∀ y ∈ nm H A p d, d <= y.depth /\ y.depth <= d + Yi6 p) (fun p ih d y hy => ?_) p
 rw [Ymz] at hy
 split at hy
 ·split at hy
  ·cases hy
  ·rw [List.mem_singleton] at hy; subst hy
   have : (Yoo p d).depth = d := rfl
   omega
 ·split at hy
  ·have go : ∀ (l : List YS) (i a e : Int) (n : Nat), (∀ x ∈ l, Yi6 x + 1 <= n /\ ∀ d, ∀ y ∈ nm H A x d, d <= y.depth /\ y.depth <= d + Yi6 x) -> ∀ y ∈ nms H A l i a e, e <= y.depth /\ y.depth <= e + n := by
    intro l
    induction l with
    | nil => intro i a e n _ y hy; simp [nms] at hy
    | cons x r ihr =>
     intro i a e n hl y hy
     rw [nms] at hy
     have hx := hl x List.mem_cons_self
     rcases List.mem_append.1 hy with hy | hy
     ·revert hy; repeat' split
      all_goals (intro hy; first | cases hy | (have := hx.2 _ y hy; omega))
     ·exact ihr _ _ _ n (fun z hz => hl z (List.mem_cons_of_mem _ hz)) y hy
   refine go p.items _ _ _ _ (fun x hx => ⟨?_, ih x hx⟩) y hy
   obtain ⟨k, hk, e⟩ := Ysz hx
   rw [<- e]; exact Yl5 hk
  ·cases hy
section
variable {B : List YB} {Ls : List YS} {p f : YS} {o : List YC} {s t u k1 : Nat}
theorem Ypa {x : YS} (h : s < x.items.length) : wY (x.items.getD s default) <= wY x /\ Yho (x.items.getD s default) <= Yho x /\ Yi6 (x.items.getD s default) <= Yi6 x /\ x.items.length <= wY x /\ x.items.getD s default ∈ x.items := by
 have h1 := Yl6 h
 have h2 := Yl5 h
 have h3 := Yjc x
 exact ⟨h1.2, by omega, by omega, by omega, Yhn h⟩
theorem Y1as (x : YS) : x.items.length <= wY x := by have := Yjc x; omega
theorem Y1fo (hg : good Ls p) (h0 : p.kind = 0) (h : atB p s = true) : good Ls (p.items.getD s default) := by
 have h := Ysg h
 have h1 := Yt3 hg h0 h.1 h.2
 exact ⟨Yla hg.1 _ (Yhn h.1), 0, [], _, Int.le_refl _, h1.1⟩
theorem Y1g7 (hg : good Ls p) (h0 : p.kind = 0) (h : atB p s = true) : eV Ls (p.items.getD s default) = nm (Yim Ls) aS (p.items.getD s default) 0 := by
 have h := Ysg h
 unfold eV; rw [(Yt3 hg h0 h.1 h.2).1]; rfl
theorem Y1h2 (hg : good Ls p) (h0 : p.kind = 0) (h : atB p s = true) : (eV Ls (p.items.getD s default)).length <= Yho p := by
 have h1 := Ysg h
 rw [Y1g7 hg h0 h]
 have h2 := Ys5 (Yim Ls) aS (p.items.getD s default) 0
 have h3 := Ypa h1.1
 omega
theorem Y1f0 (hg : good Ls p) (h0 : p.kind = 0) (h : atB p s = true) (hd : Yi6 p <= 40) (hu : u < (eV Ls (p.items.getD s default)).length) : 0 <= ((Yis (eV Ls (p.items.getD s default)) u).getD u default).depth /\ ((Yis (eV Ls (p.items.getD s default)) u).getD u default).depth <= 40 := by
 have h1 := Ysg h
 have h3 := Ypa h1.1
 rw [Y157 hu]
 have hm := Yhn hu
 rw [Y1g7 hg h0 h] at hm ⊢
 have := Y1ek (Yim Ls) aS (p.items.getD s default) 0 _ hm
 omega
theorem Y1i0 {V : List YC} (h : u < V.length) :
  ((Yis V u).map Yhf).set u [cI ((Yis V u).getD u default).name.kind, cI ((Yis V u).getD u default).name.number, cS ((Yis V u).getD u default).name.text,
   Cell.list (List.map Yhh ((Yis V u).getD u default).name.scopes), Cell.list (List.map Yhd ((Yis V u).getD u default).name.items), cI (((Yis V u).getD u default).depth + 1),
   cI ((Yis V u).getD u default).form.kind, cI ((Yis V u).getD u default).form.number, cS ((Yis V u).getD u default).form.text,
   Cell.list (List.map Yhh ((Yis V u).getD u default).form.scopes), Cell.list (List.map Yhd ((Yis V u).getD u default).form.items),
   Cell.list (List.map Yhf ((Yis V u).getD u default).each)] = (Yis V (u + 1)).map Yhf := by
 have e := Y156 (Yis V u) u (upC ((Yis V u).getD u default)) _ rfl
 refine Eq.trans e ?_
 rw [Y157 h, Y1da h]
theorem Y1k4 (hg : good Ls p) (h0 : p.kind = 0) (h : atB p s = true) (hu : (eV Ls (p.items.getD s default)).length <= u) : (Yis (eV Ls (p.items.getD s default)) u).map Yhf = (nS Ls (p.items.getD s default)).map Yhf := by
 have h1 := Ysg h
 rw [Y1fd hu, (Y1lk hg h0 h1.1 h1.2).1]
theorem Y1fe : (smO (p.items.getD s default) [] (gS B Ls (p.items.getD s default) (f.items.getD (kS B Ls p f o s + t) default))).map Yhf = ((Yn3 B Ls p f o s t).take 0).map Ypv ++ (Yn3 B Ls p f o s t).map Yhf := by
 rw [Yvi]; rfl
theorem Y1k3 (hq : qS B Ls p f o s t = true) : (gS B Ls (p.items.getD s default) (f.items.getD (kS B Ls p f o s + t) default)).isSome = qS B Ls p f o s (t + 1) := by
 cases e : gS B Ls (p.items.getD s default) (f.items.getD (kS B Ls p f o s + t) default) with
 | none => rw [(Yzd hq e).2]; rfl
 | some c => rw [(Y106 hq e).2]; rfl
theorem Y1m2 (hq : qS B Ls p f o s t = true) : (qS B Ls p f o s (t + 1) || decide (t + 1 = (rS B Ls p f o s (t + 1)).length + 1)) = true := by
 cases e : gS B Ls (p.items.getD s default) (f.items.getD (kS B Ls p f o s + t) default) with
 | none => rw [(Yzd hq e).1, Y1db hq]; simp
 | some c => rw [(Y106 hq e).2]; rfl
end
section
variable {B : List YB} {Ls : List YS} {p f : YS}
theorem Y15q (h : ¬ p.text.data.toList = [95]) : Yj1 p = false := decide_eq_false h
theorem Y1ih (hk : p.kind = 1) (hu : ¬ p.text.data.toList = [95]) (hl : Yim Ls p = true) (hf : f.kind = 1) : mng B p f = (gS B Ls p f).isSome := by
 rw [(Y15h (o := []) hk (Y15q hu) hl).1]; simp [hf]
theorem Y1gn (hk : p.kind = 1) (hu : ¬ p.text.data.toList = [95]) (hl : Yim Ls p = true) (hf : ¬ f.kind = 1) : false = (gS B Ls p f).isSome := by
 rw [(Y15h (o := []) hk (Y15q hu) hl).1]; simp [hf]
theorem Y1io (hk : p.kind = 1) (hu : ¬ p.text.data.toList = [95]) (hl : Yim Ls p = false) : true = (gS B Ls p f).isSome := by
 rw [(Y1br (o := []) hk (Y15q hu) hl).1]; rfl
theorem Y18p {a b : ByteArray} : b = a ↔ a.data.toList = b.data.toList :=
 ⟨fun h => by rw [h], fun h => by cases a; cases b; congr 1; exact (Array.toList_inj.1 h).symm⟩
theorem Y1kr (h1 : ¬ p.kind = 1) (h0 : ¬ p.kind = 0) (hk : p.kind = f.kind) (hn : p.number = f.number) : decide (p.text.data.toList = f.text.data.toList) = (gS B Ls p f).isSome := by
 rw [(Ytb (o := []) h1 h0).1]; simp [hk, hn, Y18p]
theorem Y1l9 (h1 : ¬ p.kind = 1) (h0 : ¬ p.kind = 0) (hk : p.kind = f.kind) (hn : ¬ p.number = f.number) : false = (gS B Ls p f).isSome := by
 rw [(Ytb (o := []) h1 h0).1]; simp [hk.symm, show ¬ f.number = p.number from fun h => hn h.symm]
theorem Y1kx (h1 : ¬ p.kind = 1) (h0 : ¬ p.kind = 0) (hk : ¬ p.kind = f.kind) : false = (gS B Ls p f).isSome := by
 rw [(Ytb (o := []) h1 h0).1]; simp [show ¬ f.kind = p.kind from fun h => hk h.symm]
end
section
variable {B : List YB} {Ls : List YS} {p f : YS} {o : List YC} {k : Nat}
theorem Y19j {b : Bool} (h : (!b) = false) : b = true := by simpa using h
theorem Y1g3 {b : Bool} (h : (!b) = true) : b = false := by simpa using h
theorem Y1c9 (p : YS) : p.items.getD (atI p.items - 1).toNat default = xI p := rfl
theorem Y17l (h : fI p f = true) : (List.take (atI p.items - 1).toNat p.items).length = aT p := by
 have := Yqg h
 have e : (atI p.items - 1).toNat = aT p := rfl
 rw [e, List.length_take]; omega
theorem Y1ea (h : fI p f = true) : (atI p.items + 1).toNat = aT p + 2 := by
 have := Yqg h; omega
theorem Ypw {α : Type} (L : List α) (n : Nat) : List.take (L.length - n) (List.drop n L) = List.drop n L := by
 apply List.take_of_length_le; rw [List.length_drop]; exact Nat.le_refl _
theorem Y1fp (h : fI p f = true) : ((List.take (p.items.length - (atI p.items + 1).toNat) (List.drop (atI p.items + 1).toNat p.items)).length : Int) = p.items.length - (aT p + 2) := by
 have := Yqg h
 rw [Ypw, List.length_drop]; omega
theorem Y191 (h : fI p f = true) (hk : k < mI2 p f) (hq : qI B Ls p f k = true) (hn : (gI B Ls (xI p) (f.items.getD (aT p + k) default)).isSome = false) : (gI B Ls p f).isSome = false := by
 cases e : gI B Ls (xI p) (f.items.getD (aT p + k) default) with
 | none => rw [Y1f8 h hk (Y1i7 hq e)]; rfl
 | some c => rw [e] at hn; cases hn
theorem Y1ce : (smO (xI p) [] (gI B Ls (xI p) (f.items.getD (aT p + k) default))).map Yhf = ((Ymb B Ls p f k).take 0).map Ypv ++ (Ymb B Ls p f k).map Yhf := by
 rw [Yvi]; rfl
theorem Y1it (h : k = mI2 p f) : (rp (nI Ls (xI p)) (rI B Ls p f k)).map Yhf = (rp (nI Ls (xI p)) (rI B Ls p f (mI2 p f))).map Yhf := by rw [h]
theorem Y1jp (h : k = mI2 p f) (hq : qI B Ls p f k = true) : qI B Ls p f (mI2 p f) = true := by rw [<- h]; exact hq
end
section
variable {B : List YB} {Ls : List YS} {p f : YS} {o : List YC}
theorem Y1h7 (p : YS) : p.items.getD (aT p) default = xI p := rfl
theorem Y1ja (p : YS) : (atI p.items - 1).toNat = aT p := rfl
theorem Y1bk (hg : good Ls p) (h0 : p.kind = 0) (ha : ¬ atI p.items < 0) : ((f.items.length : Int) - ((List.take (atI p.items - 1).toNat p.items).length : Nat) - ((List.take (p.items.length - (atI p.items + 1).toNat) (List.drop (atI p.items + 1).toNat p.items)).length : Nat)) = (f.items.length : Int) - ((p.items.length : Int) - 2) := by
 have h := (Ypp hg h0).2
 rw [Ypw, List.length_drop, List.length_take]; omega
theorem Y1ld (hg : good Ls p) (h0 : ¬¬p.kind = 0) (hf : ¬¬f.kind = 0) (ha : ¬ atI p.items < 0) (hc : ¬ ((f.items.length : Int) - ((List.take (atI p.items - 1).toNat p.items).length : Nat) - ((List.take (p.items.length - (atI p.items + 1).toNat) (List.drop (atI p.items + 1).toNat p.items)).length : Nat)) < 0) : fI p f = true := by
 have h0 := Decidable.not_not.1 h0
 have := Y1bk (f := f) hg h0 ha
 exact Y1lp h0 (Decidable.not_not.1 hf) (by omega) hg (by omega)
theorem Y1be (hg : good Ls p) (h0 : ¬¬p.kind = 0) (hf : ¬¬f.kind = 0) (ha : ¬ atI p.items < 0) (hc : ((f.items.length : Int) - ((List.take (atI p.items - 1).toNat p.items).length : Nat) - ((List.take (p.items.length - (atI p.items + 1).toNat) (List.drop (atI p.items + 1).toNat p.items)).length : Nat)) < 0) : [] = (smO p o (gI B Ls p f)).map Yhf /\ false = (gI B Ls p f).isSome := by
 have h0 := Decidable.not_not.1 h0
 have := Y1bk (f := f) hg h0 ha
 rw [Y1k6 h0 (Decidable.not_not.1 hf) (by omega) (by omega), Ypb h0]; exact ⟨rfl, rfl⟩
theorem Y173 (h0 : ¬¬p.kind = 0) (hf : ¬f.kind = 0) : [] = (smO p o (gI B Ls p f)).map Yhf /\ false = (gI B Ls p f).isSome := by
 have h0 := Decidable.not_not.1 h0
 rw [Y1gk h0 hf, Ypb h0]; exact ⟨rfl, rfl⟩
theorem Y17r (h0 : ¬¬p.kind = 0) (hf : ¬¬f.kind = 0) (ha : atI p.items < 0) (hl : ¬ (p.items.length : Int) = (f.items.length : Int)) : [] = (smO p o (gI B Ls p f)).map Yhf /\ false = (gI B Ls p f).isSome := by
 have h0 := Decidable.not_not.1 h0
 rw [Y1e3 h0 (Decidable.not_not.1 hf) ha (by omega), Ypb h0]; exact ⟨rfl, rfl⟩
theorem Y1c0 (hf : fI p f = true) (h : (!(alM (gI B Ls) (List.take (aT p) p.items) (List.take (aT p) f.items)).isSome) = true) : [] = (smO p o (gI B Ls p f)).map Yhf /\ false = (gI B Ls p f).isSome := by
 rw [Y1iy hf (Y1g3 h), Ypb (Ymc hf).1]; exact ⟨rfl, rfl⟩
theorem Y189 (h0 : ¬¬p.kind = 0) (h : (gI B Ls p f).isSome = false) : [] = (smO p o (gI B Ls p f)).map Yhf /\ false = (gI B Ls p f).isSome := by
 have h0 := Decidable.not_not.1 h0
 cases e : gI B Ls p f with
 | none => rw [Ypb h0]; exact ⟨rfl, rfl⟩
 | some c => rw [e] at h; cases h
theorem Y1bq (hf : fI p f = true) (h : (!(alM (gI B Ls) (List.take (aT p) p.items) (List.take (aT p) f.items)).isSome) = false) (hq : qI B Ls p f (mI2 p f) = true) :
  (alO (alO o (alM (gI B Ls) (List.take (aT p) p.items) (List.take (aT p) f.items)) ++ rp (nI Ls (xI p)) (rI B Ls p f (mI2 p f))) (alM (gI B Ls) (List.drop (aT p + 2) p.items) (List.drop (aT p + mI2 p f) f.items))).map Yhf = (smO p o (gI B Ls p f)).map Yhf /\
  (alM (gI B Ls) (List.drop (aT p + 2) p.items) (List.drop (aT p + mI2 p f) f.items)).isSome = (gI B Ls p f).isSome := by
 have h1 := @Y1gq B Ls p f o hf (Y19j h) hq
 rw [h1.2]; exact ⟨rfl, h1.1.symm⟩
theorem Y1f3 (hl : Ls.all Yke = true) (hg : good Ls p) (hf : fI p f = true) : ((vrI Ls (xI p) 1 []).getD []).map Yhf = (rp (nI Ls (xI p)) (rI B Ls p f 0)).map Yhf := by
 rw [Y1lh hl hg hf]
 have e : rI B Ls p f 0 = [] := rfl
 rw [e, Y1c4]; rfl
theorem Y1fn (hf : fI p f = true) : (List.take (aT p) p.items).length = aT p := Y17l hf
theorem Y1j2 (hf : fI p f = true) : ((f.items.length : Int) - (aT p : Nat) - ((List.drop (aT p + 2) p.items).length : Nat)) = (mI2 p f : Nat) := by
 have := Yqg hf
 rw [List.length_drop]; omega
theorem Y1gh (a b : Nat) : ((a : Int) + (b : Int)).toNat = a + b := by omega
theorem Y1j6 (f : YS) (n : Nat) : Yhe wY (List.take n f.items) <= wY f /\ Yhe wY (List.drop n f.items) <= wY f := by
 have h1 := Yiw wY f.items n
 have h2 := Yui wY f.items n
 have h3 := Yjc f
 omega
theorem Y1lo (h1 : ¬p.kind = 1) (h0 : ¬p.kind = 0) (hk : f.kind = p.kind) (hn : f.number = p.number) : decide (f.text.data.toList = p.text.data.toList) = (gI B Ls p f).isSome := by
 rw [(Y13f (o := []) h1 h0).1]
 have : (f.text = p.text) ↔ f.text.data.toList = p.text.data.toList := by rw [Y18p]; exact eq_comm
 simp [hk, hn, this]
end
end Go.Proofs.YtpnaoendfpaodaaGreat
end
