/- Part 2 of a proof. No condition. -/
import Derived.Test.YtclpofblehlojaaGreatReb1
import Derived.Lib.AtoiErr
set_option linter.unusedVariables false
set_option linter.unusedSimpArgs false
section
namespace Go.Proofs.YtclpofblehlojaaGreat
open Go Ab
set_option maxHeartbeats 4000000
def Yff : List ByteArray := [mkS [113, 117, 111, 116, 101], mkS [108, 97, 109, 98, 100, 97], mkS [105, 102], mkS [115, 101, 116, 33], mkS [98, 101, 103, 105, 110], mkS [114, 101, 115, 101, 116], mkS [115, 104, 105, 102, 116], mkS [100, 101, 102, 105, 110, 101], mkS [100, 101, 102, 105, 110, 101, 45, 115, 121, 110, 116, 97, 120], mkS [108, 101, 116, 45, 115, 121, 110, 116, 97, 120], mkS [115, 121, 110, 116, 97, 120, 45, 114, 117, 108, 101, 115], mkS [108, 111, 99, 97, 108]]
def Yf9 : List ByteArray := [mkS [43], mkS [45], mkS [42], mkS [61], mkS [60], mkS [99, 111, 110, 115], mkS [99, 97, 114], mkS [99, 100, 114], mkS [110, 117, 108, 108, 63], mkS [112, 97, 105, 114, 63], mkS [110, 117, 109, 98, 101, 114, 63], mkS [101, 113, 63], mkS [110, 111, 116], mkS [100, 105, 115, 112, 108, 97, 121]]
def Yu4 (kind : Int) : List ByteArray -> Int -> List YB
 | [], _ => []
 | s :: r, i => ⟨s, [], kind, i⟩ :: Yu4 kind r (i + 1)
def Yf7 : List YB := Yu4 1 Yff 0 ++ Yu4 2 Yf9 0
def Yg4 (k : Nat) : List YB := Yf7.take k
theorem Yvh {k : Nat} : (Yg4 k).length <= k := by unfold Yg4; rw [List.length_take]; exact Nat.min_le_left _ _
theorem Ysp {k : Nat} (h : k < 12) : Yg4 (k + 1) = Yg4 k ++ [⟨Yff.getD k default, [], 1, k⟩] := by
 have : ∀ k, k < 12 -> Yg4 (k + 1) = Yg4 k ++ [⟨Yff.getD k default, [], 1, k⟩] := by
  intro k h; have : k = 0 ∨ k = 1 ∨ k = 2 ∨ k = 3 ∨ k = 4 ∨ k = 5 ∨ k = 6 ∨ k = 7 ∨ k = 8 ∨ k = 9 ∨ k = 10 ∨ k = 11 := by omega
  rcases this with rfl | rfl | rfl | rfl | rfl | rfl | rfl | rfl | rfl | rfl | rfl | rfl <;> rfl
 exact this k h
theorem Y139 {k : Nat} (h : k < 14) : Yg4 (12 + (k + 1)) = Yg4 (12 + k) ++ [⟨Yf9.getD k default, [], 2, k⟩] := by
 have : ∀ k, k < 14 -> Yg4 (12 + (k + 1)) = Yg4 (12 + k) ++ [⟨Yf9.getD k default, [], 2, k⟩] := by
  intro k h; have : k = 0 ∨ k = 1 ∨ k = 2 ∨ k = 3 ∨ k = 4 ∨ k = 5 ∨ k = 6 ∨ k = 7 ∨ k = 8 ∨ k = 9 ∨ k = 10 ∨ k = 11 ∨ k = 12 ∨ k = 13 := by omega
  rcases this with rfl | rfl | rfl | rfl | rfl | rfl | rfl | rfl | rfl | rfl | rfl | rfl | rfl | rfl <;> rfl
 exact this k h
def Yi6 (k : Nat) : List YB := Yf7.take (12 + k)
theorem Y16r {k : Nat} : (Yi6 k).length <= 12 + k := Yvh
theorem Ysw {k : Nat} (h : k < 14) : Yi6 (k + 1) = Yi6 k ++ [⟨Yf9.getD k default, [], 2, k⟩] := Y139 h
theorem Y13a : Yg4 12 = Yi6 0 := rfl
theorem Y16e : Yg4 0 = [] := rfl
theorem Y17w : Yi6 14 = Yf7 := rfl
abbrev Z4u  : Ct := ⟨153, [], [], [.arr true 1 (Yff.map Yf5)], .sv (.one (.ref 0))⟩
theorem Z5n   : Z4u := Yde Tryz.call153 Tryz.func153 (.f [0] [.arr true 1 [[cS (ByteArray.mk #[(113 : UInt8), (117 : UInt8), (111 : UInt8), (116 : UInt8), (101
 : UInt8)])], [cS (ByteArray.mk #[(108 : UInt8), (97 : UInt8), (109 : UInt8), (98 : UInt8), (100 : UInt8), (97 : UInt8)])], [cS (ByteArray.mk #[(105 : UInt8), (102 : UInt8)])], [cS
 (ByteArray.mk #[(115 : UInt8), (101 : UInt8), (116 : UInt8), (33 : UInt8)])], [cS (ByteArray.mk #[(98 : UInt8), (101 : UInt8), (103 : UInt8), (105 : UInt8), (110 : UInt8)])], [cS
 (ByteArray.mk #[(114 : UInt8), (101 : UInt8), (115 : UInt8), (101 : UInt8), (116 : UInt8)])], [cS (ByteArray.mk #[(115 : UInt8), (104 : UInt8), (105 : UInt8), (102 : UInt8), (116
 : UInt8)])], [cS (ByteArray.mk #[(100 : UInt8), (101 : UInt8), (102 : UInt8), (105 : UInt8), (110 : UInt8), (101 : UInt8)])], [cS (ByteArray.mk #[(100 : UInt8), (101 : UInt8),
 (102 : UInt8), (105 : UInt8), (110 : UInt8), (101 : UInt8), (45 : UInt8), (115 : UInt8), (121 : UInt8), (110 : UInt8), (116 : UInt8), (97 : UInt8), (120 : UInt8)])], [cS
 (ByteArray.mk #[(108 : UInt8), (101 : UInt8), (116 : UInt8), (45 : UInt8), (115 : UInt8), (121 : UInt8), (110 : UInt8), (116 : UInt8), (97 : UInt8), (120 : UInt8)])], [cS
 (ByteArray.mk #[(115 : UInt8), (121 : UInt8), (110 : UInt8), (116 : UInt8), (97 : UInt8), (120 : UInt8), (45 : UInt8), (114 : UInt8), (117 : UInt8), (108 : UInt8), (101 : UInt8),
 (115 : UInt8)])], [cS (ByteArray.mk #[(108 : UInt8), (111 : UInt8), (99 : UInt8), (97 : UInt8), (108 : UInt8)])]]] (.sv (.one (.ref 0)))) (by
 dsimp only [Yd3, Z4u]
 with_reducible repeat' (first | apply And.intro | exact zR | (intro))
 all_goals ((try simp only [std, inj] at *); with_reducible and_intros)
 all_goals (try exact zG)
 all_goals rfl)
abbrev Z2o  : Ct := ⟨154, [], [], [.arr true 1 (Yf9.map Yf5)], .sv (.one (.ref 0))⟩
theorem Z38   : Z2o := Yde Tryz.call154 Tryz.func154 (.f [0] [.arr true 1 [[cS (ByteArray.mk #[(43 : UInt8)])], [cS (ByteArray.mk #[(45 : UInt8)])],
 [cS (ByteArray.mk #[(42 : UInt8)])], [cS (ByteArray.mk #[(61 : UInt8)])], [cS (ByteArray.mk #[(60 : UInt8)])], [cS (ByteArray.mk #[(99 : UInt8), (111 : UInt8), (110 : UInt8), (115
 : UInt8)])], [cS (ByteArray.mk #[(99 : UInt8), (97 : UInt8), (114 : UInt8)])], [cS (ByteArray.mk #[(99 : UInt8), (100 : UInt8), (114 : UInt8)])], [cS (ByteArray.mk #[(110 :
 UInt8), (117 : UInt8), (108 : UInt8), (108 : UInt8), (63 : UInt8)])], [cS (ByteArray.mk #[(112 : UInt8), (97 : UInt8), (105 : UInt8), (114 : UInt8), (63 : UInt8)])], [cS
 (ByteArray.mk #[(110 : UInt8), (117 : UInt8), (109 : UInt8), (98 : UInt8), (101 : UInt8), (114 : UInt8), (63 : UInt8)])], [cS (ByteArray.mk #[(101 : UInt8), (113 : UInt8), (63 :
 UInt8)])], [cS (ByteArray.mk #[(110 : UInt8), (111 : UInt8), (116 : UInt8)])], [cS (ByteArray.mk #[(100 : UInt8), (105 : UInt8), (115 : UInt8), (112 : UInt8), (108 : UInt8), (97 :
 UInt8), (121 : UInt8)])]]] (.sv (.one (.ref 0)))) (by
 dsimp only [Yd3, Z2o]
 with_reducible repeat' (first | apply And.intro | exact zR | (intro))
 all_goals ((try simp only [std, inj] at *); with_reducible and_intros)
 all_goals (try exact zG)
 all_goals rfl)
abbrev Z39  : Ct := ⟨74, [], [], [.arr true 4 (Yf7.map Yd1)], .sv (.one (.ref 0))⟩
def Zs  : Lp Nat := .mk 36 0 (fun x => [(1, .one (.ref 0)), (21, .one (.ref 1)), (22, li 14), (23, hs x 0)]) (fun x => [ho x 1, .arr true 1 (List.map Yf5
 Yf9)]) (fun k => [.s (li (k : Int)), .o (.arr true 4 ((Yi6 k).map Yd1))]) (fun k => k <= 14) (fun k => 14 - k) [.mk True (.exit 2) (fun x => [(1, .one
 (.ref 0))]) (fun x => [ho x 0]) [.o (.arr true 4 (Yf7.map Yd1))]]
def Zt  : Lp Nat := .mk 36 0 (fun x => [(1, .one (.ref 0)), (7, .one (.ref 1)), (8, li 12), (9, hs x 0)]) (fun x => [ho x 1, .arr true 1 (List.map Yf5
 Yff)]) (fun k => [.s (li (k : Int)), .o (.arr true 4 ((Yg4 k).map Yd1))]) (fun k => k <= 12) (fun k => 12 - k) [.mk True (.exit 0) (fun x => [(1, .one
 (.ref 0))]) (fun x => [ho x 0]) [.o (.arr true 4 ((Yi6 0).map Yd1))]]
theorem Z5o  : Lp.Sem Tryz.prog (Ydg Tryz.f74 1) Zs := Ydr (fun k => .i ((k : Int) < 14) (.p (0 <= (k : Int) /\ (k : Int).toNat < 14) (.w
 (.cells (Yf5 (Yf9.getD (k : Int).toNat default))) (.p ((Yf9.map Yf5)[(k : Int).toNat]? = some [cS (Yf9.getD (k : Int).toNat default)]) (.p (((List.map
 Yd1 (Yi6 k)).length + 1) * 56 <= 140737488355328) (.r ((k : Int) + 1) (.g [3, 1] (k + 1) [.s (li ((k : Int) + 1)), .o (.arr true 4 ((Yi6 k).map Yd1 ++ [[cS
 (Yf9.getD (k : Int).toNat default), .list [], cI 2, cI (k : Int)]]))])))))) (.o 0 [0] [.o (.arr true 4 ((Yi6 k).map Yd1))])) (by
 intro k h; try dsimp only [Yd3, Ydb, Zs] at h ⊢
 have e : Yf9.length = 14 := rfl
 have g := @Y16r k
 have g2 := @Ysw k
 with_reducible repeat' (first | apply And.intro | exact zR | (intro))
 all_goals ((try simp only [std, inj] at *); with_reducible and_intros)
 all_goals try first | exact z | grind [Y17w, Yd7, Yd8, Yd4]
 all_goals (rw [Ysw (by omega)]; exact Yd4 (C := Yd1) (Yi6 k) ⟨Yf9.getD k default, [], 2, k⟩))
theorem Z5p  : Lp.Sem Tryz.prog (Ydg Tryz.f74 0) Zt := Ydr (fun k => .i ((k : Int) < 12) (.p (0 <= (k : Int) /\ (k : Int).toNat < 12) (.w
 (.cells (Yf5 (Yff.getD (k : Int).toNat default))) (.p ((Yff.map Yf5)[(k : Int).toNat]? = some [cS (Yff.getD (k : Int).toNat default)]) (.p (((List.map
 Yd1 (Yg4 k)).length + 1) * 56 <= 140737488355328) (.r ((k : Int) + 1) (.g [3, 1] (k + 1) [.s (li ((k : Int) + 1)), .o (.arr true 4 ((Yg4 k).map Yd1 ++ [[cS
 (Yff.getD (k : Int).toNat default), .list [], cI 1, cI (k : Int)]]))])))))) (.o 0 [0] [.o (.arr true 4 ((Yg4 k).map Yd1))])) (by
 intro k h; try dsimp only [Yd3, Ydb, Zt] at h ⊢
 have e : Yff.length = 12 := rfl
 have g := @Yvh k
 have g2 := @Ysp k
 with_reducible repeat' (first | apply And.intro | exact zR | (intro))
 all_goals ((try simp only [std, inj] at *); with_reducible and_intros)
 all_goals try first | exact z | grind [Y16e, Y13a, Yd7, Yd8, Yd4]
 all_goals (rw [Ysp (by omega)]; exact Yd4 (C := Yd1) (Yg4 k) ⟨Yff.getD k default, [], 1, k⟩))
theorem Z6r   : Z39 := Yde Tryz.call74 Tryz.func74 (.w (.bool false) (.c [] Z5n (.h (12 <= 9223372036854775807) (.l Zt
 Z5p [0, 1] [.s (li 0), .o (.arr true 4 [])] 0 (.t (.c [] Z38 (.h (14 <= 9223372036854775807) (.l Zs Z5o [0, 1] [.s (li
 0), .o (.arr true 4 ((Yi6 0).map Yd1))] 0 (.t (.f [0] [.arr true 4 (Yf7.map Yd1)] (.sv (.one (.ref 0)))) .q)))) .q))))) (by
 dsimp only [Yd3, Z39, Ydb, Zt, Zs]
 with_reducible repeat' (first | apply And.intro | exact zR | (intro))
 all_goals ((try simp only [std, inj] at *); with_reducible and_intros)
 all_goals (try exact zG)
 all_goals rfl)
abbrev Z4v  : Ct := ⟨164, [], [], [.arr true 1 (Yff.map Yf5)], .sv (.one (.ref 0))⟩
theorem Z8w   : Z4v := Yde Tryz.call164 Tryz.func164 (.f [0] [.arr true 1 [[cS (ByteArray.mk #[(113 : UInt8), (117 : UInt8), (111 : UInt8), (116 : UInt8), (101
 : UInt8)])], [cS (ByteArray.mk #[(108 : UInt8), (97 : UInt8), (109 : UInt8), (98 : UInt8), (100 : UInt8), (97 : UInt8)])], [cS (ByteArray.mk #[(105 : UInt8), (102 : UInt8)])], [cS
 (ByteArray.mk #[(115 : UInt8), (101 : UInt8), (116 : UInt8), (33 : UInt8)])], [cS (ByteArray.mk #[(98 : UInt8), (101 : UInt8), (103 : UInt8), (105 : UInt8), (110 : UInt8)])], [cS
 (ByteArray.mk #[(114 : UInt8), (101 : UInt8), (115 : UInt8), (101 : UInt8), (116 : UInt8)])], [cS (ByteArray.mk #[(115 : UInt8), (104 : UInt8), (105 : UInt8), (102 : UInt8), (116
 : UInt8)])], [cS (ByteArray.mk #[(100 : UInt8), (101 : UInt8), (102 : UInt8), (105 : UInt8), (110 : UInt8), (101 : UInt8)])], [cS (ByteArray.mk #[(100 : UInt8), (101 : UInt8),
 (102 : UInt8), (105 : UInt8), (110 : UInt8), (101 : UInt8), (45 : UInt8), (115 : UInt8), (121 : UInt8), (110 : UInt8), (116 : UInt8), (97 : UInt8), (120 : UInt8)])], [cS
 (ByteArray.mk #[(108 : UInt8), (101 : UInt8), (116 : UInt8), (45 : UInt8), (115 : UInt8), (121 : UInt8), (110 : UInt8), (116 : UInt8), (97 : UInt8), (120 : UInt8)])], [cS
 (ByteArray.mk #[(115 : UInt8), (121 : UInt8), (110 : UInt8), (116 : UInt8), (97 : UInt8), (120 : UInt8), (45 : UInt8), (114 : UInt8), (117 : UInt8), (108 : UInt8), (101 : UInt8),
 (115 : UInt8)])], [cS (ByteArray.mk #[(108 : UInt8), (111 : UInt8), (99 : UInt8), (97 : UInt8), (108 : UInt8)])]]] (.sv (.one (.ref 0)))) (by
 dsimp only [Yd3, Z4v]
 with_reducible repeat' (first | apply And.intro | exact zR | (intro))
 all_goals ((try simp only [std, inj] at *); with_reducible and_intros)
 all_goals (try exact zG)
 all_goals rfl)
abbrev Z2p  : Ct := ⟨165, [], [], [.arr true 1 (Yf9.map Yf5)], .sv (.one (.ref 0))⟩
theorem Z64   : Z2p := Yde Tryz.call165 Tryz.func165 (.f [0] [.arr true 1 [[cS (ByteArray.mk #[(43 : UInt8)])], [cS (ByteArray.mk #[(45 : UInt8)])],
 [cS (ByteArray.mk #[(42 : UInt8)])], [cS (ByteArray.mk #[(61 : UInt8)])], [cS (ByteArray.mk #[(60 : UInt8)])], [cS (ByteArray.mk #[(99 : UInt8), (111 : UInt8), (110 : UInt8), (115
 : UInt8)])], [cS (ByteArray.mk #[(99 : UInt8), (97 : UInt8), (114 : UInt8)])], [cS (ByteArray.mk #[(99 : UInt8), (100 : UInt8), (114 : UInt8)])], [cS (ByteArray.mk #[(110 :
 UInt8), (117 : UInt8), (108 : UInt8), (108 : UInt8), (63 : UInt8)])], [cS (ByteArray.mk #[(112 : UInt8), (97 : UInt8), (105 : UInt8), (114 : UInt8), (63 : UInt8)])], [cS
 (ByteArray.mk #[(110 : UInt8), (117 : UInt8), (109 : UInt8), (98 : UInt8), (101 : UInt8), (114 : UInt8), (63 : UInt8)])], [cS (ByteArray.mk #[(101 : UInt8), (113 : UInt8), (63 :
 UInt8)])], [cS (ByteArray.mk #[(110 : UInt8), (111 : UInt8), (116 : UInt8)])], [cS (ByteArray.mk #[(100 : UInt8), (105 : UInt8), (115 : UInt8), (112 : UInt8), (108 : UInt8), (97 :
 UInt8), (121 : UInt8)])]]] (.sv (.one (.ref 0)))) (by
 dsimp only [Yd3, Z2p]
 with_reducible repeat' (first | apply And.intro | exact zR | (intro))
 all_goals ((try simp only [std, inj] at *); with_reducible and_intros)
 all_goals (try exact zG)
 all_goals rfl)
set_option maxHeartbeats 4000000
def Y1d4 (k : Int) : Int := if k = 1 then 11 else if k = 2 then 13 else if k = 3 then 99999 else if k = 4 then 99999 else -1
def Yig (b : YB) : Bool := Yft b.text && Yi0 b.scopes && decide (0 <= b.number /\ b.number <= Y1d4 b.kind)
abbrev Z6s (b : YB) : Ct := ⟨77, [], [Yml b], [], .sv (lb (Yig b))⟩
theorem Z3w (b : YB)  : Z6s b := Yde Tryz.call77 Tryz.func77 (.i (b.kind = 1) (.c [] Z5n (.h (12 <= 9223372036854775807) (.r 11 (.c [.rd] (Zd
 b.text) (.b (Yft b.text) (.c [.rd] (Z27 b.scopes) (.b (Yi0 b.scopes) (.c [.rd, .rd, .rd] (Z1b b.number 0 11) (.s (lb (decide (0 <= b.number /\ b.number <= 11))))) (.s (lb
 false)))) (.y false (.s (lb false)))))))) (.i (b.kind = 2) (.c [] Z38 (.h (14 <= 9223372036854775807) (.r 13 (.c [.rd] (Zd b.text) (.b (Yft b.text) (.c
 [.rd] (Z27 b.scopes) (.b (Yi0 b.scopes) (.c [.rd, .rd, .rd] (Z1b b.number 0 13) (.s (lb (decide (0 <= b.number /\ b.number <= 13))))) (.s (lb false)))) (.y false (.s (lb
 false)))))))) (.i (b.kind = 3) (.y true (.c [.rd] (Zd b.text) (.b (Yft b.text) (.c [.rd] (Z27 b.scopes) (.b (Yi0 b.scopes) (.c [.rd, .rd, .rd] (Z1b b.number 0
 99999) (.s (lb (decide (0 <= b.number /\ b.number <= 99999))))) (.s (lb false)))) (.y false (.s (lb false)))))) (.i (b.kind = 4) (.c [.rd] (Zd b.text) (.b (Yft b.text) (.c
 [.rd] (Z27 b.scopes) (.b (Yi0 b.scopes) (.c [.rd, .rd, .rd] (Z1b b.number 0 99999) (.s (lb (decide (0 <= b.number /\ b.number <= 99999))))) (.s (lb false)))) (.y false (.s
 (lb false))))) (.c [.rd] (Zd b.text) (.b (Yft b.text) (.c [.rd] (Z27 b.scopes) (.b (Yi0 b.scopes) (.c [.rd, .rd, .rd] (Z1b b.number 0 (-1 : Int)) (.s (lb
 (decide (0 <= b.number /\ b.number <= (-1 : Int)))))) (.s (lb false)))) (.y false (.s (lb false))))))))) (by
 dsimp only [Yd3, Z6s]
 have e1 : Yff.length = 12 := rfl
 have e2 : Yf9.length = 14 := rfl
 with_reducible repeat' (first | apply And.intro | exact zR | (intro) | apply mIc | apply mOc | apply mSc | apply mLc)
 all_goals ((try simp only [std, inj] at *); with_reducible and_intros)
 all_goals try first | exact z | exact zM | grind [Yig, Y1d4, Yd7, Yd8, Yd4])
abbrev Z6t (b : YB) : Ct := ⟨85, [], [Yml b], [], .sv (lb (Yig b))⟩
theorem Zc3 (b : YB)  : Z6t b := Yde Tryz.call85 Tryz.func85 (.c [.rd] (Z2v b.text) (.b (!Yft b.text) (.y true (.y true (.s (lb false)))) (.c [.rd]
 (Z37 b.scopes) (.b (!Yi0 b.scopes) (.y true (.s (lb false))) (.i (b.number < 0) (.s (lb false)) (.i (b.kind = 1) (.w (.draw []) (.c [] Z8w (.h (12 <=
 9223372036854775807) (.s (lb (decide (b.number < 12))))))) (.i (b.kind = 2) (.w (.draw []) (.c [] Z64 (.h (14 <= 9223372036854775807) (.s (lb (decide (b.number <
 14))))))) (.i (b.kind = 3) (.y true (.s (lb (decide (b.number <= 99999))))) (.i (b.kind = 4) (.s (lb (decide (b.number <= 99999)))) (.s (lb false))))))))))) (by
 dsimp only [Yd3, Z6t]
 have e1 : Yff.length = 12 := rfl
 have e2 : Yf9.length = 14 := rfl
 with_reducible repeat' (first | apply And.intro | exact zR | (intro) | apply mIc | apply mOc | apply mSc | apply mLc | apply Z2v | apply Z37)
 all_goals ((try simp only [std, inj] at *); with_reducible and_intros)
 all_goals try with_reducible first | apply Z2v | apply Z37
 all_goals try first | exact z | exact zM | grind [Yig, Y1d4, Yd7, Yd8, Yd4])
def clB (t : ByteArray) (s : List Int) (x : YB) : Bool := decide (x.text = t) && decide (x.scopes = s)
def Yh4 (L : List YB) (t : ByteArray) (s : List Int) : Bool := L.any (clB t s)
abbrev Z50 (L : List YB) (b : YB) : Ct := ⟨78, [], [ll (L.map Yd1), Yml b], [], .sv (lb (Yh4 L b.text b.scopes))⟩
def Z30 (L : List YB) (b : YB) : Lp Nat := .mk 26 0 (fun x => [(3, .one (.ptr 0 0)), (7, ll (L.map Yd1)), (8, li (↑(L.map Yd1).length :
 Int)), (9, hs x 0)]) (fun x => [.box (vals (Ydq b))]) (fun k => [.s (li (k : Int))]) (fun k => k <= L.length /\ L.length <= 9223372036854775807 /\ Yh4 (L.take k) b.text
 b.scopes = false) (fun k => L.length - k) [.mk (Yh4 L b.text b.scopes = false) (.exit 0) (fun x => []) (fun x => []) [], .mk (Yh4 L b.text b.scopes = true) .ret (fun x => [(4,
 hs x 0)]) (fun x => []) [.s (lb true)]]
theorem Z9m (L : List YB) (b : YB) : Lp.Sem Tryz.prog (Ydg Tryz.f78 0) (Z30 L b) := Ydr (fun k => .i ((k : Int) < (↑(L.map Yd1).length :
 Int)) (.x (k : Int) (L.map Yd1) (Ydq (L.getD k default)) (.i ((L.getD k default).text.data.toList = b.text.data.toList) (.c [.rd, .rd] (Z69 (L.getD k
 default).scopes b.scopes) (.i ((L.getD k default).scopes = b.scopes) (.o 1 [] [.s (lb true)]) (.r ((k : Int) + 1) (.g [0] (k + 1) [.s (li ((k : Int) + 1))])))) (.y false (.r
 ((k : Int) + 1) (.g [0] (k + 1) [.s (li ((k : Int) + 1))]))))) (.o 0 [] [])) (by
 intro k h; try dsimp only [Yd3, Ydb, Z30] at h ⊢
 with_reducible repeat' (first | apply And.intro | exact zR | (intro) | apply mIc | apply mOc | apply mSc | apply mLc)
 all_goals ((try simp only [std, inj] at *); with_reducible and_intros)
 all_goals try first | exact z | exact zM | grind [Ydn, Yh4, clB, Yd6, Yh2, Yd7, Yd8, Yd4])
theorem Z51 (L : List YB) (b : YB)  : Z50 L b := Yde Tryz.call78 Tryz.func78 (.z Yd1 L (.l (Z30 L b) (Z9m L b) [0] [.s (li 0)] 0 (.t (.s
 (lb false)) (.t (.s (lb true)) .q)))) (by
 dsimp only [Yd3, Z50, Ydb, Z30]
 with_reducible repeat' (first | apply And.intro | exact zR | (intro) | apply mIc | apply mOc | apply mSc | apply mLc)
 all_goals ((try simp only [std, inj] at *); with_reducible and_intros)
 all_goals try first | exact z | exact zM | grind [Yh4, Yd7, Yd8, Yd4])
def Yfy (L : List YB) : Nat -> Bool
 | 0 => true
 | k + 1 => Yfy L k && (Yig (L.getD k default) && !Yh4 (L.take k) (L.getD k default).text (L.getD k default).scopes)
theorem Ypu (L : List YB) : ∀ (m k : Nat), k <= m -> Yfy L m = true -> Yfy L k = true
 | 0, k, h, _ => by
  obtain rfl : k = 0 := by omega
  rfl
 | m + 1, k, h, ht => by
  by_cases e : k = m + 1
  ·rw [e]; exact ht
  ·refine Ypu L m k (by omega) ?_
   simp only [Yfy, Bool.and_eq_true] at ht; exact ht.1
def Yqs (L : List YB) : Bool := Yfy L L.length && decide ((L.length : Int) <= 1000)
abbrev Z8x (L : List YB) : Ct := ⟨36, [], [ll (L.map Yd1)], [], .sv (lb (Yqs L))⟩
def Z48 (L : List YB) : Lp Nat := .mk 26 0 (fun x => [(0, ll (L.map Yd1)), (5, ll (L.map Yd1)), (6, li (↑(L.map Yd1).length : Int)), (7, hs
 x 0)]) (fun x => []) (fun k => [.s (li (k : Int))]) (fun k => k <= L.length /\ L.length <= 9223372036854775807 /\ Yfy L k = true) (fun k => L.length - k) [.mk (Yfy L L.length =
 true) (.exit 0) (fun x => [(0, ll (L.map Yd1))]) (fun x => []) [], .mk (Yfy L L.length = false) .ret (fun x => [(2, hs x 0)]) (fun x => []) [.s (lb false)]]
theorem Zb2 (L : List YB) : Lp.Sem Tryz.prog (Ydg Tryz.f36 0) (Z48 L) := Ydr (fun k => .i ((k : Int) < (↑(L.map Yd1).length : Int)) (.x (k : Int)
 (L.map Yd1) (Ydq (L.getD k default)) (.w (.draw []) (.c [.rd] (Z3w (L.getD k default)) (.b (!Yig (L.getD k default)) (.y true (.o 1 [] [.s (lb false)])) (.p
 (0 <= (k : Int)) (.p (0 <= (k : Int).toNat /\ (k : Int).toNat <= (L.map Yd1).length /\ ∀ (e : List Cell), e ∈ L.map Yd1 -> e.length = 4) (.u [.rd, .rd]
 (Z50 (List.take ((k : Int).toNat - 0) (L.drop 0)) (L.getD k default)) (.p (Ygd Tryz.prog 78 [] [ll (List.take ((k : Int).toNat - 0) (List.drop 0 (List.map
 Yd1 L))), SV.agg (vals (Ydq (L.getD k default)))] [] (AV.sv (lb (Yh4 (List.take ((k : Int).toNat - 0) (L.drop 0)) (L.getD k default).text (L.getD k
 default).scopes)))) (.b (Yh4 (List.take ((k : Int).toNat - 0) (L.drop 0)) (L.getD k default).text (L.getD k default).scopes) (.o 1 [] [.s (lb false)]) (.r ((k : Int) + 1)
 (.g [] (k + 1) [.s (li ((k : Int) + 1))]))))))))))) (.o 0 [] [])) (by
 intro k h; try dsimp only [Yd3, Ydb, Z48] at h ⊢
 have g1 := Ypu L L.length (k + 1)
 have g2 : Yfy L (k + 1) = (Yfy L k && (Yig (L.getD k default) && !Yh4 (L.take k) (L.getD k default).text (L.getD k default).scopes)) := rfl
 with_reducible repeat' (first | apply And.intro | exact zR | (intro) | apply mIc | apply mOc | apply mSc | apply mLc | apply Z3w | apply Z51)
 all_goals ((try simp only [std, inj] at *); with_reducible and_intros)
 all_goals try with_reducible first | apply Z3w | apply Z51
 all_goals try first | exact z | exact zM | grind [Yd6, Yd7, Yd8, Yd4])
theorem Zcu (L : List YB)  : Z8x L := Yde Tryz.call36 Tryz.func36 (.z Yd1 L (.l (Z48 L) (Zb2 L) [] [.s (li 0)] 0 (.t (.z Yd1 L (.s (lb (decide
 ((↑(L.map Yd1).length : Int) <= 1000))))) (.t (.s (lb false)) .q)))) (by
 dsimp only [Yd3, Z8x, Ydb, Z48]
 with_reducible repeat' (first | apply And.intro | exact zR | (intro) | apply mIc | apply mOc | apply mSc | apply mLc)
 all_goals ((try simp only [std, inj] at *); with_reducible and_intros)
 all_goals try first | exact z | exact zM | grind [Yqs, Yfy, Yd7, Yd8, Yd4])
def plc (L : List YB) : Nat -> ByteArray -> List Int
 | 0, _ => []
 | k + 1, s => if s = (L.getD k default).text then plc L k s ++ [(k : Int)] else plc L k s
theorem Y1fy {L : List YB} {k : Nat} : Yjx (plc L k) (L.getD k default).text (plc L k (L.getD k default).text ++ [(k : Int)]) = plc L (k + 1) := by
 funext s; simp only [Yjx, plc]; split
 ·rename_i h; rw [h]
 ·rfl
theorem Y1bw {L : List YB} : zL = plc L 0 := rfl
theorem Y14t (L : List YB) (s : ByteArray) : ∀ k, (plc L k s).length <= k
 | 0 => Nat.le_refl _
 | k + 1 => by
  have := Y14t L s k
  simp only [plc]; split
  ·simp; omega
  ·omega
theorem Ysa (L : List YB) (s : ByteArray) : ∀ k (i : Int), i ∈ plc L k s ↔ (0 <= i /\ i < k /\ (L.getD i.toNat default).text = s)
 | 0, i => by simp [plc]; omega
 | k + 1, i => by
  have ih := Ysa L s k i
  simp only [plc]; split
  ·rename_i h
   rw [List.mem_append, ih, List.mem_singleton]
   constructor
   ·rintro (⟨a, b, c⟩ | rfl)
    ·exact ⟨a, by omega, c⟩
    ·exact ⟨by omega, by omega, by rw [Int.toNat_natCast]; exact h.symm⟩
   ·rintro ⟨a, b, c⟩
    by_cases e : i = k
    ·exact .inr e
    ·exact .inl ⟨a, by omega, c⟩
  ·rename_i h
   rw [ih]
   constructor
   ·rintro ⟨a, b, c⟩; exact ⟨a, by omega, c⟩
   ·rintro ⟨a, b, c⟩
    refine ⟨a, ?_, c⟩
    by_cases e : i = k
    ·subst e; rw [Int.toNat_natCast] at c; exact absurd c.symm h
    ·omega
def Ypm (L : List YB) (s : List Int) (P : List Int) : Bool := P.all fun i => !decide ((L.getD i.toNat default).scopes = s)
theorem Y175 {L : List YB} {k : Nat} {t : ByteArray} {s : List Int} (hk : k <= L.length) : Ypm L s (plc L k t) = !Yh4 (L.take k) t s := by
 rw [Bool.eq_iff_iff]
 simp only [Ypm, Yh4, clB, List.all_eq_true, Bool.not_eq_true', decide_eq_false_iff_not, List.any_eq_false, Bool.and_eq_true, decide_eq_true_eq, not_and]
 constructor
 ·intro h x hx e
  obtain ⟨j, hj, rfl⟩ := List.getElem_of_mem hx
  rw [List.length_take] at hj
  have e2 : (L.take k)[j]'(by rw [List.length_take]; exact hj) = L.getD j default := by simp [show j < L.length by omega]
  rw [e2] at e ⊢
  have := h (j : Int) ((Ysa L t k j).2 ⟨by omega, by omega, by rw [Int.toNat_natCast]; exact e⟩)
  rwa [Int.toNat_natCast] at this
 ·intro h i hi
  obtain ⟨a, b, c⟩ := (Ysa L t k i).1 hi
  refine h _ ?_ c
  have e : L.getD i.toNat default = (L.take k)[i.toNat]'(by rw [List.length_take]; omega) := by simp [show i.toNat < L.length by omega]
  rw [e]; exact List.getElem_mem _
theorem Y1fv {L : List YB} {s : List Int} {P : List Int} {j : Nat} (h : j < P.length) (e : (L.getD (P.getD j default).toNat default).scopes = s) : Ypm L s P = false := by
 unfold Ypm; rw [List.all_eq_false]; exact ⟨_, Yd6 h, by rw [decide_eq_true e]; decide⟩
theorem Y19d {L : List YB} {s : List Int} {P : List Int} {j : Nat} (h : j < P.length) (h0 : Ypm L s (P.take j) = true) (e : (L.getD (P.getD j default).toNat default).scopes ≠ s) : Ypm L s (P.take (j + 1)) = true := by
 unfold Ypm at *; rw [Ydn h, List.all_append, h0]; simpa using e
abbrev Z8y (L : List YB) : Ct := ⟨33, [], [ll (L.map Yd1)], [], .sv (lb (Yqs L))⟩
def Z49 (L : List YB) (k : Nat) : Lp Nat := .mk 51 0 (fun x => [(0, ll (L.map Yd1)), (3, .one (.mref 0)), (4, li (k : Int)), (5, .one (.ptr 1 0)),
 (12, ll (L.map Yd1)), (13, li (↑(L.map Yd1).length : Int)), (14, li (k : Int)), (25, .one (.bor 0 (.list ((plc L k (L.getD k
 default).text).map Yd2)))), (26, li (↑((plc L k (L.getD k default).text).map Yd2).length : Int)), (27, hs x 0)]) (fun x => [.map false kL (mL (plc L k)), .box (vals (Ydq
 (L.getD k default)))]) (fun k1 => [.s (li (k1 : Int))]) (fun k1 => k1 <= (plc L k (L.getD k default).text).length /\ (plc L k (L.getD k default).text).length <= 9223372036854775807
 /\ k < L.length /\ Yfy L k = true /\ Yig (L.getD k default) = true /\ Ypm L (L.getD k default).scopes (List.take k1 (plc L k (L.getD k default).text)) = true) (fun k1 => (plc L k
 (L.getD k default).text).length - k1) [.mk (Yfy L (k + 1) = true) (.exit 2) (fun x => [(0, ll (L.map Yd1)), (3, .one (.mref 0)), (4, li (k : Int)), (5, .one
 (.ptr 1 0)), (12, ll (L.map Yd1)), (13, li (↑(L.map Yd1).length : Int)), (14, li (k : Int))]) (fun x => [.map false kL (mL (plc L k)), .box (vals
 (Ydq (L.getD k default)))]) [], .mk (Yfy L L.length = false) .ret (fun x => [(2, hs x 0)]) (fun x => []) [.s (lb false)]]
def Z4a (L : List YB) : Lp Nat := .mk 51 0 (fun x => [(0, ll (L.map Yd1)), (3, .one (.mref 0)), (12, ll (L.map Yd1)), (13, li (↑(List.map
 Yd1 L).length : Int)), (14, hs x 0)]) (fun x => [ho x 1]) (fun k => [.s (li (k : Int)), .o (.map false kL (mL (plc L k)))]) (fun k => k <= L.length /\ L.length <=
 9223372036854775807 /\ L.length <= 1000 /\ Yfy L k = true) (fun k => L.length - k) [.mk (Yfy L L.length = true) (.exit 0) (fun x => []) (fun x => []) [], .mk (Yfy L L.length =
 false) .ret (fun x => [(2, hs x 0)]) (fun x => []) [.s (lb false)]]
theorem Zb3 (L : List YB) (k : Nat) : Lp.Sem Tryz.prog (Ydg Tryz.f33 1) (Z49 L k) := Ydr (fun k1 => .i ((k1 : Int) < (↑((plc L k (L.getD k
 default).text).map Yd2).length : Int)) (.x (k1 : Int) ((plc L k (L.getD k default).text).map Yd2) [cI ((plc L k (L.getD k default).text).getD k1 0)] (.w (.draw []) (.x ((plc L k
 (L.getD k default).text).getD k1 0) (L.map Yd1) (Ydq (L.getD ((plc L k (L.getD k default).text).getD k1 0).toNat default)) (.c [.rd, .rd] (Z4p (L.getD ((plc
 L k (L.getD k default).text).getD k1 0).toNat default).scopes (L.getD k default).scopes) (.i ((L.getD ((plc L k (L.getD k default).text).getD k1 0).toNat default).scopes = (L.getD
 k default).scopes) (.o 1 [] [.s (lb false)]) (.r ((k1 : Int) + 1) (.g [0, 1] (k1 + 1) [.s (li ((k1 : Int) + 1))]))))))) (.o 0 [0, 1] [])) (by
 intro k1 h; try dsimp only [Yd3, Ydb, Z49] at h ⊢
 have g1 := Ypu L L.length (k + 1)
 have g2 : Yfy L (k + 1) = (Yfy L k && (Yig (L.getD k default) && !Yh4 (L.take k) (L.getD k default).text (L.getD k default).scopes)) := rfl
 have g3 := @Y175 L k (L.getD k default).text (L.getD k default).scopes
 have g4 := @Y1fv L (L.getD k default).scopes (plc L k (L.getD k default).text) k1
 have g5 := @Y19d L (L.getD k default).scopes (plc L k (L.getD k default).text) k1
 have g6 := Ysa L (L.getD k default).text k ((plc L k (L.getD k default).text).getD k1 default)
 have g7 : ∀ j, (plc L k (L.getD k default).text).length <= j -> (plc L k (L.getD k default).text).take j = plc L k (L.getD k default).text := fun j h => List.take_of_length_le h
 with_reducible repeat' (first | apply And.intro | exact zR | (intro) | apply mIc | apply mOc | apply mSc | apply mLc)
 all_goals ((try simp only [std, inj] at *); with_reducible and_intros)
 all_goals try first | exact z | exact zM | grind [Yd6, Yd7, Yd8, Yd4])
theorem Zb4 (L : List YB) : Lp.Sem Tryz.prog (Ydg Tryz.f33 0) (Z4a L) := Ydr (fun k => .i ((k : Int) < (↑(L.map Yd1).length : Int)) (.x (k : Int)
 (L.map Yd1) (Ydq (L.getD k default)) (.c [.rd] (Zc3 (L.getD k default)) (.b (!Yig (L.getD k default)) (.o 1 [] [.s (lb false)]) (.w (.cells [.list
 ((plc L k (L.getD k default).text).map Yd2)]) (.p (Yjy (Value.slice none 0 0) (mL (plc L k)) (Value.string (L.getD k default).text) (Cell.list ((plc L k
 (L.getD k default).text).map Yd2))) (.z Yd2 (plc L k (L.getD k default).text) (.l (Z49 L k) (Zb3 L k) [0, 1] [.s (li 0)] 0 (.t (.w (.draw [(6, [0]), (9, [6, 7]), (10, [8,
 0])]) (.w (.taken ((plc L k (L.getD k default).text).map Yd2) 1 (mLt (plc L k) (L.getD k default).text)) (.p (Yjy (Value.slice none 0 0) (mL (plc L k)) (Value.string
 (L.getD k default).text) (Cell.list ((plc L k (L.getD k default).text).map Yd2))) (.p (Yin kL.d (mL (plc L k)) (mLt (plc L k) (L.getD k default).text) (Value.string (L.getD
 k default).text) (some Cell.any)) (.p (some (Value.slice none 0 0) = some (Value.slice none 0 0)) (.p (∀ (x : List Cell), x ∈ (plc L k (L.getD k default).text).map Yd2 ->
 x.length = 1) (.p ((((plc L k (L.getD k default).text).map Yd2).length + 1) * 8 <= 140737488355328) (.w (.upd (mL (Yjx (plc L k) (L.getD k default).text (plc L k (L.getD k
 default).text ++ [(k : Int)])))) (.p (false = false) (.p (Yin kL.d (mLt (plc L k) (L.getD k default).text) (mL (Yjx (plc L k) (L.getD k default).text (plc L k (L.getD k
 default).text ++ [(k : Int)]))) (Value.string (L.getD k default).text) (some (Cell.list ((plc L k (L.getD k default).text).map Yd2 ++ [[cI (k : Int)]])))) (.r ((k : Int)
 + 1) (.g [0] (k + 1) [.s (li ((k : Int) + 1)), .o (.map false kL (mL (Yjx (plc L k) (L.getD k default).text (plc L k (L.getD k default).text ++ [(k : Int)]))))]))))))))))))
 (.t (.o 1 [] [.s (lb false)]) .q))))))))) (.o 0 [] [])) (by
 intro k h; try dsimp only [Yd3, Ydb, Z4a, Z49] at h ⊢
 have g1 := Ypu L L.length (k + 1)
 have g2 : Yfy L (k + 1) = (Yfy L k && (Yig (L.getD k default) && !Yh4 (L.take k) (L.getD k default).text (L.getD k default).scopes)) := rfl
 have g3 := Y14t L (L.getD k default).text k
 have g4 := @Y1fy L k
 have g5 : Ypm L (L.getD k default).scopes ((plc L k (L.getD k default).text).take 0) = true := rfl
 with_reducible repeat' (first | apply And.intro | exact zR | (intro) | apply mIc | apply mOc | apply mSc | apply mLc)
 all_goals ((try simp only [std, inj] at *); with_reducible and_intros)
 all_goals try first | exact z | exact zM | grind [Yd6, Yd7, Yd8, Yd4]
 all_goals (try (exact Y19z (by simp [Yd2]))))
theorem Zcv (L : List YB)  : Z8y L := Yde Tryz.call33 Tryz.func33 (.z Yd1 L (.i (1000 < (↑(L.map Yd1).length : Int)) (.s (lb false)) (.w (.mkmap kL) (.z
 Yd1 L (.l (Z4a L) (Zb4 L) [0] [.s (li 0), .o (.map false kL (mL zL))] 0 (.t (.s (lb true)) (.t (.s (lb false)) .q))))))) (by
 dsimp only [Yd3, Z8y, Ydb, Z4a]
 with_reducible repeat' (first | apply And.intro | exact zR | (intro) | apply mIc | apply mOc | apply mSc | apply mLc)
 all_goals ((try simp only [std, inj] at *); with_reducible and_intros)
 all_goals try first | exact z | exact zM | grind [Yqs, Yfy, Y1bw, Yd7, Yd8, Yd4])
def Y1li (l : List YS) : List Cell := [.list (l.map Ycz)]
def Y1k9 (l : List YS) : List Cell := [.list (l.map Ycz)]
instance : Row (List YS) Y1li Y1k9 1 := ⟨fun _ => rfl, fun _ => rfl⟩
theorem Yx1 {u : Nat} (h : u < 10) : Lib.decDigits u = [UInt8.ofNat (48 + u)] := by rw [Lib.decDigits, dif_pos h]
theorem Yzp {u : Nat} (h : ¬ u < 10) : Lib.decDigits u = Lib.decDigits (u / 10) ++ [UInt8.ofNat (48 + u % 10)] := by rw [Lib.decDigits, dif_neg h]
theorem Y14k : ∀ (k u : Nat), u < 10 ^ (k + 1) -> (Lib.decDigits u).length <= k + 1
 | k, u, h => by
  by_cases hu : u < 10
  ·rw [Yx1 hu]; simp
  ·cases k with
   | zero => exact absurd (by simpa using h) hu
   | succ k =>
    have := Y14k k (u / 10) (by rw [Nat.pow_succ] at h; omega)
    rw [Yzp hu]; simp only [List.length_append, List.length_cons, List.length_nil]; omega
def dgs (u : Nat) : List UInt8 := if u = 0 then [] else Lib.decDigits u
theorem Y1dd {u : Nat} (h : u ≠ 0) : dgs u = dgs (u / 10) ++ [UInt8.ofNat (48 + u % 10)] := by
 unfold dgs
 rw [if_neg h]
 by_cases hu : u < 10
 ·rw [Yx1 hu, if_pos (by omega), Nat.mod_eq_of_lt hu]; rfl
 ·rw [Yzp hu, if_neg (by omega)]
theorem Y1bz : dgs 0 = [] := rfl
theorem Y1ix {u : Nat} (h : u ≠ 0) : dgs u = Lib.decDigits u := if_neg h
theorem Y10w {n : Int} (h : 0 <= n) : Lib.itoa n = Lib.decDigits n.natAbs := by
 unfold Lib.itoa; rw [if_neg (by omega)]; congr 1; omega
theorem Y1cb {n : Int} (h : n < 0) : Lib.itoa n = 45 :: Lib.decDigits n.natAbs := by unfold Lib.itoa; rw [if_pos h]
theorem Y19v : Lib.itoa 0 = [48] := by rw [Y10w (by decide)]; exact Yx1 (by decide)
theorem Y18k {n : Int} (h : -9223372036854775808 <= n /\ n <= 9223372036854775807) : (Lib.decDigits n.natAbs).length <= 20 := by
 have e : (10 : Nat) ^ (19 + 1) = 100000000000000000000 := by decide
 exact Y14k 19 n.natAbs (by omega)
def atN (s : ByteArray) : Nat := if 0 < (s.size : Int) /\ ((s.data.toList.getD 0 0).toNat : Int) = 45 then 1 else 0
def Y17x (s : ByteArray) : Option Nat := Lib.decFrom 0 ((tx s).drop (atN s))
def Yq8 (s : ByteArray) : Bool := (Y17x s).isSome
def magN (s : ByteArray) : Nat := (Y17x s).getD 0
def sgN (s : ByteArray) : Int := if atN s = 1 then 0 - (magN s : Int) else magN s
def Y1c5 (s : ByteArray) : Bool := decide (atN s < s.size /\ s.size <= atN s + 9) && Yq8 s
def Yja (s : ByteArray) : Bool := Y1c5 s && decide (Lib.itoa (sgN s) = tx s)
def Ykt (s : ByteArray) : Int := if Yja s then sgN s else 0
def Yns (s : ByteArray) (k : Nat) : Option Nat := Lib.decFrom 0 (((tx s).drop (atN s)).take (k - atN s))
theorem Y1cp (s : ByteArray) : Yns s (atN s) = some 0 := by simp [Yns, Lib.decFrom]
theorem Y1f4 {s : ByteArray} {m : Nat} (h : Yns s s.size = some m) : Yq8 s = true /\ magN s = m := by
 have e : ((tx s).drop (atN s)).take (s.size - atN s) = (tx s).drop (atN s) := List.take_of_length_le (by rw [List.length_drop]; exact Nat.le_refl _)
 unfold Yns at h; rw [e] at h
 simp [Yq8, magN, Y17x, h]
theorem Y1k7 (s : ByteArray) : atN s <= 1 := by unfold atN; split <;> omega
theorem Y103 {l : List UInt8} {a k : Nat} (h1 : a <= k) (h2 : k < l.length) : (l.drop a)[k - a]? = some (l.getD k 0) := by
 rw [List.getElem?_drop, show a + (k - a) = k by omega]; simp [h2]
theorem Y1br {s : ByteArray} {k m : Nat} (h1 : atN s <= k) (h2 : k < s.size) (h : Yns s k = some m) (hd : 48 <= ((tx s).getD k 0).toNat /\ ((tx s).getD k 0).toNat <= 57) :
  Yns s (k + 1) = some (m * 10 + (((tx s).getD k 0).toNat - 48)) := by
 unfold Yns at *
 rw [show k + 1 - atN s = k - atN s + 1 by omega]
 exact Lib.decFrom_take _ _ _ _ _ _ h (Y103 h1 h2) (by unfold Lib.digitVal; rw [if_pos hd])
theorem Y1cu {s : ByteArray} {k : Nat} (h1 : atN s <= k) (h2 : k < s.size) (hd : ¬ (48 <= ((tx s).getD k 0).toNat /\ ((tx s).getD k 0).toNat <= 57)) : Yq8 s = false := by
 cases e : Y17x s with
 | none => simp [Yq8, e]
 | some m =>
  obtain ⟨d, hd'⟩ := Lib.digit_of_decFrom _ _ _ e _ _ (Y103 h1 h2)
  unfold Lib.digitVal at hd'
  rw [if_neg hd] at hd'; cases hd'
theorem Y19e {s : ByteArray} {k m : Nat} (h : Yns s k = some m) (hk : k <= atN s + 9) : m < 1000000000 := by
 have h1 := Lib.decFrom_lt _ 0 m h
 have h2 : (((tx s).drop (atN s)).take (k - atN s)).length <= 9 := by rw [List.length_take]; omega
 have h3 := Nat.pow_le_pow_right (n := 10) (by decide) h2
 have e : (10 : Nat) ^ 9 = 1000000000 := by decide
 omega
theorem Y18j {s : ByteArray} (h : Yq8 s = true) (hk : s.size <= atN s + 9) : magN s < 1000000000 := by
 have e : ((tx s).drop (atN s)).take (s.size - atN s) = (tx s).drop (atN s) := List.take_of_length_le (by rw [List.length_drop]; exact Nat.le_refl _)
 obtain ⟨m, hm⟩ := Option.isSome_iff_exists.1 h
 have := Y19e (s := s) (k := s.size) (m := m) (by unfold Yns; rw [e]; exact hm) hk
 simp only [magN, hm, Option.getD_some]; exact this
theorem Y1ac {s : ByteArray} (h : Yja s = true) : -999999999 <= Ykt s /\ Ykt s <= 999999999 /\ Ykt s = sgN s /\ Lib.itoa (sgN s) = tx s := by
 have e : Ykt s = sgN s := by unfold Ykt; rw [if_pos h]
 simp only [Yja, Y1c5, Bool.and_eq_true, decide_eq_true_eq] at h
 have := Y18j h.1.2 h.1.1.2
 refine ⟨?_, ?_, e, h.2⟩ <;> rw [e] <;> unfold sgN <;> split <;> omega
theorem Y1bu {s : ByteArray} (h : Yja s = false) : Ykt s = 0 := by unfold Ykt; rw [h]; rfl
theorem Y194 {n : Int} : rng .u8 n ↔ 0 <= n /\ n <= 255 := by
 simp [rng, IntKind.min, IntKind.max, IntKind.signed, IntKind.bits]
theorem Y1h5 {m : Int} (h : 0 <= m /\ m <= 255) : ((UInt8.ofNat m.toNat).toNat : Int) = m := by
 rw [UInt8.toNat_ofNat']; omega
def Ygs (n : Int) : Bool := decide (n = 32 ∨ n = 10 ∨ n = 9)
def Yqd (n : Int) : Bool := decide (n = 40 ∨ n = 41 ∨ n = 34 ∨ n = 59 ∨ n = 39)
def isRu (n : Int) : Bool := !Ygs n && !Yqd n
def pas (p : Int -> Bool) : List UInt8 -> List UInt8
 | [] => []
 | b :: r => if p b.toNat then pas p r else b :: r
def pre (p : Int -> Bool) : List UInt8 -> List UInt8
 | [] => []
 | b :: r => if p b.toNat then b :: pre p r else []
def noQ (n : Int) : Bool := !decide (n = 34)
theorem Yks (p : Int -> Bool) : ∀ r, pas p r <:+ r
 | [] => List.suffix_refl _
 | b :: r => by
  unfold pas; split
  ·exact (Yks p r).trans (List.suffix_cons b r)
  ·exact List.suffix_refl _
theorem Y14m (p : Int -> Bool) : ∀ r, pre p r ++ pas p r = r
 | [] => rfl
 | b :: r => by
  unfold pas pre; split
  ·rw [List.cons_append, Y14m p r]
  ·rfl
theorem Y12n (p : Int -> Bool) : ∀ r, pas p (pas p r) = pas p r
 | [] => rfl
 | b :: r => by
  by_cases h : p b.toNat = true
  ·have e : pas p (b :: r) = pas p r := by show (if p b.toNat = true then pas p r else b :: r) = _; rw [if_pos h]
   rw [e]; exact Y12n p r
  ·have e : pas p (b :: r) = b :: r := by show (if p b.toNat = true then pas p r else b :: r) = _; rw [if_neg h]
   rw [e, e]
abbrev skp := pas Ygs
def by0 (r : List UInt8) : Int := ((r.getD 0 0).toNat : Int)
def Yh5 (t : ByteArray) : Option Datum :=
 if Yja t = true then some ⟨2, Ykt t, mkS [], []⟩ else if tx t = [35, 116] then some ⟨3, 1, mkS [], []⟩ else if tx t = [35, 102] then some ⟨3, 0, mkS [], []⟩ else if Yft t = true then some ⟨1, 0, t, []⟩ else none
def clo (r : List UInt8) : Option (List UInt8) := if skp r ≠ [] /\ by0 (skp r) = 41 then some ((skp r).drop 1) else none
mutual
/-- does the text read as the datum, and what is left -/
def ckD : Datum -> List UInt8 -> Option (List UInt8)
 | ⟨k, n, t, l⟩, r =>
  if skp r = [] ∨ by0 (skp r) = 41 ∨ by0 (skp r) = 39 ∨ by0 (skp r) = 59 then none
  else if by0 (skp r) = 40 then (if k = 0 /\ n = 0 /\ t = mkS [] then (ckP l ((skp r).drop 1)).bind clo else none)
  else if by0 (skp r) = 34 then (if k = 4 /\ n = 0 /\ t = mkS (pre noQ ((skp r).drop 1)) /\ l = [] /\ Yh1 t = true /\ pas noQ ((skp r).drop 1) ≠ [] then some ((pas noQ ((skp r).drop 1)).drop 1) else none)
  else if Yh5 (mkS (pre isRu (skp r))) = some ⟨k, n, t, l⟩ then some (pas isRu (skp r)) else none
def ckP : List Datum -> List UInt8 -> Option (List UInt8)
 | [], r => some r
 | x :: l, r => (ckD x r).bind fun q => ckP l q
end
theorem Y1aq (d : Datum) (r : List UInt8) : ckD d r =
  if skp r = [] ∨ by0 (skp r) = 41 ∨ by0 (skp r) = 39 ∨ by0 (skp r) = 59 then none
  else if by0 (skp r) = 40 then (if d.kind = 0 /\ d.number = 0 /\ d.text = mkS [] then (ckP d.items ((skp r).drop 1)).bind clo else none)
  else if by0 (skp r) = 34 then (if d.kind = 4 /\ d.number = 0 /\ d.text = mkS (pre noQ ((skp r).drop 1)) /\ d.items = [] /\ Yh1 d.text = true /\ pas noQ ((skp r).drop 1) ≠ [] then some ((pas noQ ((skp r).drop 1)).drop 1) else none)
  else if Yh5 (mkS (pre isRu (skp r))) = some d then some (pas isRu (skp r)) else none := by
 cases d; rw [ckD]
theorem Y135 {r q : List UInt8} (h : clo r = some q) : skp r ≠ [] /\ by0 (skp r) = 41 /\ q = (skp r).drop 1 := by
 unfold clo at h; split at h
 ·rename_i e; exact ⟨e.1, e.2, (Option.some.inj h).symm⟩
 ·cases h
theorem Yqr (l : List UInt8) : l.drop 1 <:+ l := List.drop_suffix 1 l
theorem Ywh {L : List Datum} (ih : ∀ (d : Datum), d ∈ L -> ∀ r q, ckD d r = some q -> q <:+ r) : ∀ (l : List Datum), (∀ d ∈ l, d ∈ L) -> ∀ r q, ckP l r = some q -> q <:+ r
 | [], _, r, q, h => by simp only [ckP, Option.some.injEq] at h; rw [h]; exact List.suffix_refl _
 | x :: l, hl, r, q, h => by
  simp only [ckP, Option.bind_eq_some_iff] at h
  obtain ⟨m, h1, h2⟩ := h
  exact (Ywh ih l (fun d hd => hl d (List.mem_cons_of_mem _ hd)) m q h2).trans (ih x (hl x List.mem_cons_self) r m h1)
theorem Y15t : ∀ (d : Datum) (r q : List UInt8), ckD d r = some q -> q <:+ r := by
 refine Datum.ind fun d ih r q h => ?_
 have hs := Yks Ygs r
 have h1 := (Yqr (skp r)).trans hs
 rw [Y1aq] at h
 split at h
 ·cases h
 split at h
 ·split at h
  ·rw [Option.bind_eq_some_iff] at h
   obtain ⟨m, h2, h3⟩ := h
   have h4 := Y135 h3
   rw [h4.2.2]
   exact ((Yqr _).trans (Yks Ygs m)).trans ((Ywh ih d.items (fun _ h => h) _ _ h2).trans h1)
  ·cases h
 split at h
 ·split at h
  ·rw [<- Option.some.inj h]
   exact ((Yqr _).trans (Yks noQ _)).trans h1
  ·cases h
 split at h
 ·rw [<- Option.some.inj h]; exact (Yks isRu _).trans hs
 ·cases h
def rs (s : ByteArray) (a : Nat) : List UInt8 := (tx s).drop a
def plR (s : ByteArray) (r : List UInt8) : Nat := s.size - r.length
theorem Ymw (s : ByteArray) (a : Nat) : (rs s a).length = s.size - a := by unfold rs; rw [List.length_drop]; rfl
theorem Yvj {s : ByteArray} {a : Nat} {q : List UInt8} (ha : a <= s.size) (h : q <:+ rs s a) : rs s (plR s q) = q /\ a <= plR s q /\ plR s q <= s.size /\ q.length = s.size - plR s q := by
 have h1 := h.length_le
 rw [Ymw] at h1
 have h2 : q <:+ tx s := h.trans (List.drop_suffix a _)
 have h3 := (List.suffix_iff_eq_drop.1 h2)
 have e : (tx s).length = s.size := rfl
 rw [e] at h3
 exact ⟨h3.symm, by unfold plR; omega, by unfold plR; omega, by unfold plR; omega⟩
theorem Yjn {s : ByteArray} {a : Nat} (h : a < s.size) : rs s a = (tx s).getD a 0 :: rs s (a + 1) := Yfj (L := tx s) h
theorem Y19h {s : ByteArray} {a : Nat} (h : s.size <= a) : rs s a = [] := List.drop_eq_nil_of_le h
theorem Y17m {s : ByteArray} {a : Nat} : rs s a ≠ [] ↔ a < s.size := by
 constructor
 ·intro h; rcases Nat.lt_or_ge a s.size with e | e
  ·exact e
  ·exact absurd (Y19h e) h
 ·intro h; rw [Yjn h]; simp
theorem Y1aw {s : ByteArray} {a : Nat} (h : a < s.size) : by0 (rs s a) = (((tx s).getD a 0).toNat : Int) := by rw [Yjn h]; rfl
def pst (p : Int -> Bool) (s : ByteArray) (a : Nat) : Nat := plR s (pas p (rs s a))
theorem Yk7 (p : Int -> Bool) {s : ByteArray} {a : Nat} (h : a <= s.size) : rs s (pst p s a) = pas p (rs s a) /\ a <= pst p s a /\ pst p s a <= s.size := by
 have := Yvj h (Yks p (rs s a)); exact ⟨this.1, this.2.1, this.2.2.1⟩
theorem Yza (p : Int -> Bool) {s : ByteArray} {a : Nat} (h : a < s.size) (hp : p ((tx s).getD a 0).toNat = true) : pst p s (a + 1) = pst p s a := by
 unfold pst; rw [Yjn h]; simp only [pas]; rw [if_pos hp]
theorem Ytb (p : Int -> Bool) {s : ByteArray} {a : Nat} (h : a <= s.size) (hp : a < s.size -> p ((tx s).getD a 0).toNat = false) : pst p s a = a := by
 rcases Nat.lt_or_ge a s.size with e | e
 ·unfold pst; rw [Yjn e]; simp only [pas]; rw [if_neg (by rw [hp e]; decide), <- Yjn e]
  unfold plR; rw [Ymw]; omega
 ·unfold pst; rw [Y19h e]; unfold pas plR; simp; omega
theorem Y1cy (p : Int -> Bool) {s : ByteArray} {a : Nat} (h : a <= s.size) : pst p s (pst p s a) = pst p s a := by
 have h1 := Yk7 p h
 unfold pst at h1 ⊢; rw [h1.1, Y12n]
theorem Y15e (p : Int -> Bool) {s : ByteArray} {a : Nat} (h : a <= s.size) : (rs s a).take (pst p s a - a) = pre p (rs s a) := by
 have h1 := Y14m p (rs s a)
 have h2 := Yvj h (Yks p (rs s a))
 have h3 := congrArg List.length h1
 rw [List.length_append, Ymw] at h3
 have h4 : (pre p (rs s a)).length = pst p s a - a := by unfold pst; omega
 have h5 : (pre p (rs s a) ++ pas p (rs s a)).take (pre p (rs s a)).length = pre p (rs s a) := List.take_left
 rw [h1, h4] at h5; exact h5
def okR (d : Datum) (s : ByteArray) (a : Nat) : Bool := (ckD d (rs s a)).isSome
def enR (d : Datum) (s : ByteArray) (a : Nat) : Nat := plR s ((ckD d (rs s a)).getD [])
def okP (l : List Datum) (s : ByteArray) (a : Nat) : Bool := (ckP l (rs s a)).isSome
def enP (l : List Datum) (s : ByteArray) (a : Nat) : Nat := plR s ((ckP l (rs s a)).getD [])
def sk (s : ByteArray) (a : Nat) : Nat := pst Ygs s a
theorem Y1e8 (l : List Datum) (r q : List UInt8) (h : ckP l r = some q) : q <:+ r := Ywh (L := l) (fun d _ => Y15t d) l (fun _ h => h) r q h
theorem Y1jx {d : Datum} {s : ByteArray} {a : Nat} (h : a <= s.size) (hd : okR d s a = true) : ckD d (rs s a) = some (rs s (enR d s a)) /\ a <= enR d s a /\ enR d s a <= s.size := by
 obtain ⟨q, hq⟩ := Option.isSome_iff_exists.1 hd
 have := Yvj h (Y15t d _ _ hq)
 unfold enR; rw [hq, Option.getD_some, this.1]; exact ⟨rfl, this.2.1, this.2.2.1⟩
theorem Yra {l : List Datum} {s : ByteArray} {a : Nat} (h : a <= s.size) (hd : okP l s a = true) : ckP l (rs s a) = some (rs s (enP l s a)) /\ a <= enP l s a /\ enP l s a <= s.size := by
 obtain ⟨q, hq⟩ := Option.isSome_iff_exists.1 hd
 have := Yvj h (Y1e8 l _ _ hq)
 unfold enP; rw [hq, Option.getD_some, this.1]; exact ⟨rfl, this.2.1, this.2.2.1⟩
theorem Yx2 (s : ByteArray) {a : Nat} (h : a <= s.size) : enP [] s a = a := by
 unfold enP; rw [ckP]; unfold plR; rw [Option.getD_some, Ymw]; omega
theorem Ypw : ∀ (l m : List Datum) (r : List UInt8), ckP (l ++ m) r = (ckP l r).bind fun q => ckP m q
 | [], m, r => by simp [ckP]
 | x :: l, m, r => by
  rw [List.cons_append, ckP, ckP]
  cases ckD x r with
  | none => rfl
  | some q => simp only [Option.bind_some]; exact Ypw l m q
theorem Yp3 {l : List Datum} {s : ByteArray} {a k : Nat} (h : a <= s.size) (hd : okP l s a = true) : okP (l.take k) s a = true := by
 unfold okP at *; rw [<- List.take_append_drop k l, Ypw] at hd
 cases e : ckP (l.take k) (rs s a) with
 | none => rw [e] at hd; cases hd
 | some q => rfl
theorem Y11k {l : List Datum} {s : ByteArray} {a k : Nat} (h : a <= s.size) (hd : okP l s a = true) (hk : k < l.length) :
  okR (l.getD k default) s (enP (l.take k) s a) = true /\ enP (l.take (k + 1)) s a = enR (l.getD k default) s (enP (l.take k) s a) := by
 have h1 := Yp3 (k := k) h hd
 have h2 := Yp3 (k := k + 1) h hd
 have h3 := Yra h h1
 rw [Ydn hk] at h2
 have h4 : ckP (l.take k ++ [l.getD k default]) (rs s a) = ckD (l.getD k default) (rs s (enP (l.take k) s a)) := by
  rw [Ypw, h3.1, Option.bind_some, ckP]
  cases ckD (l.getD k default) (rs s (enP (l.take k) s a)) <;> rfl
 constructor
 ·unfold okR; unfold okP at h2; rw [h4] at h2; exact h2
 ·rw [Ydn hk]; unfold enP enR; rw [h4]; rfl
def byt (s : ByteArray) (a : Nat) : Int := ((s.data.toList.getD a 0).toNat : Int)
theorem Y19r (s : ByteArray) (a : Nat) : byt s a = (((tx s).getD a 0).toNat : Int) := rfl
def noc (s : ByteArray) (a : Nat) : Bool := !(decide (sk s a < s.size) && decide (byt s (sk s a) = 59))
def sbs (s : ByteArray) (a b : Nat) : ByteArray := mkS (((tx s).drop a).take (b - a))
theorem Y1jk {s : ByteArray} {a : Nat} (h : a <= s.size) {q : List UInt8} (hq : clo (rs s a) = some q) : sk s a < s.size /\ byt s (sk s a) = 41 /\ plR s q = sk s a + 1 /\ noc s a = true := by
 have h1 := Y135 hq
 have h2 := (Yk7 Ygs h).1
 have h3 : sk s a < s.size := Y17m.1 (by unfold sk; rw [h2]; exact h1.1)
 have h4 : byt s (sk s a) = 41 := by rw [Y19r, <- Y1aw h3]; unfold sk; rw [h2]; exact h1.2.1
 refine ⟨h3, h4, ?_, by simp [noc, h4]⟩
 have h5 : q = rs s (sk s a + 1) := by
  rw [h1.2.2]; show (pas Ygs (rs s a)).drop 1 = _; rw [<- h2]; show (rs s (sk s a)).drop 1 = _; rw [Yjn h3]; rfl
 rw [h5]; unfold plR; rw [Ymw]; omega
theorem Yhk {d : Datum} {s : ByteArray} {a : Nat} (h : a <= s.size) (hd : okR d s a = true) :
    noc s a = true /\ sk s a < s.size /\ byt s (sk s a) ≠ 41 /\ byt s (sk s a) ≠ 39 /\ byt s (sk s a) ≠ 59 /\
    ((byt s (sk s a) = 40 /\ d.kind = 0 /\ d.number = 0 /\ d.text = mkS [] /\ okP d.items s (sk s a + 1) = true /\ noc s (enP d.items s (sk s a + 1)) = true /\ sk s (enP d.items s (sk s a + 1)) < s.size /\ byt s (sk s (enP d.items s (sk s a + 1))) = 41 /\ enR d s a = sk s (enP d.items s (sk s a + 1)) + 1)
     ∨ (byt s (sk s a) = 34 /\ d.kind = 4 /\ d.number = 0 /\ d.items = [] /\ d.text = sbs s (sk s a + 1) (pst noQ s (sk s a + 1)) /\ Yh1 d.text = true /\ pst noQ s (sk s a + 1) < s.size /\ enR d s a = pst noQ s (sk s a + 1) + 1)
     ∨ (byt s (sk s a) ≠ 40 /\ byt s (sk s a) ≠ 34 /\ Yh5 (sbs s (sk s a) (pst isRu s (sk s a))) = some d /\ enR d s a = pst isRu s (sk s a))) := by
  obtain ⟨q, hq⟩ := Option.isSome_iff_exists.1 hd
  have he : enR d s a = plR s q := by unfold enR; rw [hq]; rfl
  have h2 := Yk7 Ygs h
  rw [Y1aq] at hq
  change rs s (sk s a) = skp (rs s a) /\ a <= sk s a /\ sk s a <= s.size at h2
  rw [<- h2.1] at hq
  split at hq
  · cases hq
  rename_i h3
  simp only [not_or] at h3
  have h4 : sk s a < s.size := Y17m.1 h3.1
  have hb : by0 (rs s (sk s a)) = byt s (sk s a) := by rw [Y1aw h4, Y19r]
  have hd1 : (rs s (sk s a)).drop 1 = rs s (sk s a + 1) := by rw [Yjn h4]; rfl
  rw [hb] at h3 hq
  rw [hd1] at hq
  refine ⟨by simp [noc, h3.2.2.2], h4, h3.2.1, h3.2.2.1, h3.2.2.2, ?_⟩
  split at hq
  · rename_i h5
    split at hq
    · rename_i h6
      rw [Option.bind_eq_some_iff] at hq
      obtain ⟨m, h7, h8⟩ := hq
      have ho : okP d.items s (sk s a + 1) = true := by unfold okP; rw [h7]; rfl
      have h9 := Yra (by omega) ho
      rw [h7, Option.some.injEq] at h9
      rw [h9.1] at h8
      have h10 := Y1jk h9.2.2 h8
      exact .inl ⟨h5, h6.1, h6.2.1, h6.2.2, ho, h10.2.2.2, h10.1, h10.2.1, by rw [he, h10.2.2.1]⟩
    · cases hq
  rename_i h5
  split at hq
  · rename_i h6
    split at hq
    · rename_i h7
      have h8 := Yk7 noQ (s := s) (a := sk s a + 1) (by omega)
      rw [<- h8.1] at h7
      have h9 := Y17m.1 h7.2.2.2.2.2
      refine .inr (.inl ⟨h6, h7.1, h7.2.1, h7.2.2.2.1, ?_, h7.2.2.2.2.1, h9, ?_⟩)
      · unfold sbs; rw [h7.2.2.1, <- Y15e noQ (by omega)]; rfl
      · rw [he, <- Option.some.inj hq, <- h8.1, Yjn h9]
        show plR s (rs s _) = _
        unfold plR; rw [Ymw]; omega
    · cases hq
  rename_i h6
  split at hq
  · rename_i h7
    have h8 := Yk7 isRu (s := s) (a := sk s a) (by omega)
    refine .inr (.inr ⟨h5, h6, ?_, ?_⟩)
    · unfold sbs; rw [show (tx s).drop (sk s a) = rs s (sk s a) from rfl, Y15e isRu (by omega)]; exact h7
    · rw [he, <- Option.some.inj hq, <- h8.1]; unfold plR; rw [Ymw]; omega
  · cases hq
theorem Y1eq {s : ByteArray} {a : Nat} (h : a <= s.size) : a <= sk s a /\ sk s a <= s.size := (Yk7 Ygs h).2
def Yk0 (L : List Datum) (s : ByteArray) : Bool := okP L s 0 && decide (sk s (enP L s 0) = s.size) && L.all Yjt && decide (sumBy sizeD L <= 600) && decide (s.size <= 15000)
theorem Y1iu (s : ByteArray) (a b : Nat) : tx (sbs s a b) = (s.data.toList.drop a).take (b - a) := Y18r _
theorem Y1jz (s : ByteArray) (a b : Nat) : sbs s a b = mkS ((s.data.toList.drop a).take (b - a)) := rfl
theorem Ywl {s : ByteArray} {a : Nat} (h : a <= s.size) : sk s (sk s a) = sk s a := Y1cy Ygs h
theorem Y1iy {s : ByteArray} {a : Nat} (h : a <= s.size) : noc s (sk s a) = noc s a := by unfold noc; rw [Ywl h]
theorem Y1kp {d : Datum} {s : ByteArray} {a : Nat} (h : a <= s.size) (hd : okR d s a = true) : noc s a = true /\ sk s a < s.size /\ byt s (sk s a) ≠ 41 /\ byt s (sk s a) ≠ 39 /\ byt s (sk s a) ≠ 59 /\ a <= sk s a /\ sk s (sk s a) = sk s a /\ noc s (sk s a) = true := by
 have g := Yhk h hd
 exact ⟨g.1, g.2.1, g.2.2.1, g.2.2.2.1, g.2.2.2.2.1, (Y1eq h).1, Ywl h, by rw [Y1iy h]; exact g.1⟩
theorem Y1h3 {d : Datum} {s : ByteArray} {a : Nat} (h : a <= s.size) (hd : okR d s a = true) (hb : byt s (sk s a) = 40) : d.kind = 0 /\ d.number = 0 /\ d.text = mkS [] /\ enR d s a = sk s (enP d.items s (sk s a + 1)) + 1 := by
 rcases (Yhk h hd).2.2.2.2.2 with g | g | g
 ·exact ⟨g.2.1, g.2.2.1, g.2.2.2.1, g.2.2.2.2.2.2.2.2⟩
 ·omega
 ·omega
theorem Y1hr {d : Datum} {s : ByteArray} {a : Nat} (h : a <= s.size) (hd : okR d s a = true) (hb : byt s (sk s a) = 34) : d.kind = 4 /\ d.number = 0 /\ d.items = [] /\ d.text = mkS ((s.data.toList.drop (sk s a + 1)).take (pst noQ s (sk s a + 1) - (sk s a + 1))) /\ Yh1 (mkS ((s.data.toList.drop (sk s a + 1)).take (pst noQ s (sk s a + 1) - (sk s a + 1)))) = true /\ pst noQ s (sk s a + 1) < s.size /\ enR d s a = pst noQ s (sk s a + 1) + 1 := by
 rcases (Yhk h hd).2.2.2.2.2 with g | g | g
 ·omega
 ·have e := g.2.2.2.2.1
  refine ⟨g.2.1, g.2.2.1, g.2.2.2.1, e, ?_, g.2.2.2.2.2.2.1, g.2.2.2.2.2.2.2⟩
  have := g.2.2.2.2.2.1; rw [e] at this; exact this
 ·omega
theorem Y1hb {d : Datum} {s : ByteArray} {a : Nat} (h : a <= s.size) (hd : okR d s a = true) (h1 : byt s (sk s a) ≠ 40) (h2 : byt s (sk s a) ≠ 34) : Yh5 (sbs s (sk s a) (pst isRu s (sk s a))) = some d /\ enR d s a = pst isRu s (sk s a) := by
 rcases (Yhk h hd).2.2.2.2.2 with g | g | g
 ·omega
 ·omega
 ·exact g.2.2
theorem rdl {d : Datum} {s : ByteArray} {a : Nat} (h : a <= s.size) (hd : okR d s a = true) (hb : byt s (sk s a) = 40) {k : Nat} (hk : k <= d.items.length) :
  enP (d.items.take k) s (sk s a + 1) <= s.size /\ noc s (enP (d.items.take k) s (sk s a + 1)) = true /\ sk s (enP (d.items.take k) s (sk s a + 1)) < s.size /\ (byt s (sk s (enP (d.items.take k) s (sk s a + 1))) = 41 ↔ k = d.items.length) /\
  (k < d.items.length -> okR (d.items.getD k default) s (enP (d.items.take k) s (sk s a + 1)) = true /\ enP (d.items.take (k + 1)) s (sk s a + 1) = enR (d.items.getD k default) s (enP (d.items.take k) s (sk s a + 1))) /\
  (k = d.items.length -> enP (d.items.take k) s (sk s a + 1) = enP d.items s (sk s a + 1)) := by
 have g := Yhk h hd
 rcases g.2.2.2.2.2 with c | c | c
 ·have hs : sk s a + 1 <= s.size := g.2.1
  have hp := Yra hs (Yp3 (k := k) hs c.2.2.2.2.1)
  have e : k = d.items.length -> enP (d.items.take k) s (sk s a + 1) = enP d.items s (sk s a + 1) := fun e => by rw [e, List.take_length]
  rcases Nat.lt_or_eq_of_le hk with hl | hl
  ·have st := Y11k hs c.2.2.2.2.1 hl
   have g2 := Yhk hp.2.2 st.1
   exact ⟨hp.2.2, g2.1, g2.2.1, ⟨fun q => absurd q g2.2.2.1, fun q => by omega⟩, fun _ => st, e⟩
  ·rw [e hl]
   exact ⟨by rw [<- e hl]; exact hp.2.2, c.2.2.2.2.2.1, c.2.2.2.2.2.2.1, ⟨fun _ => hl, fun _ => c.2.2.2.2.2.2.2.1⟩, fun q => by omega, fun _ => rfl⟩
 ·omega
 ·omega
theorem Y1hi {d : Datum} {s : ByteArray} {a : Nat} (h : a <= s.size) (hd : okR d s a = true) : enP (d.items.take 0) s (sk s a + 1) = sk s a + 1 := Yx2 s (Yhk h hd).2.1
mutual
def Ye7 : Datum -> YS
 | ⟨k, n, t, l⟩ => ⟨k, n, t, [], Yul l⟩
def Yul : List Datum -> List YS
 | [] => []
 | x :: r => Ye7 x :: Yul r
end
theorem Y106 : ∀ l, Yul l = l.map Ye7
 | [] => by simp [Yul]
 | x :: r => by rw [Yul, Y106 r]; rfl
theorem Y14o (d : Datum) : Ye7 d = ⟨d.kind, d.number, d.text, [], d.items.map Ye7⟩ := by cases d; simp only [Ye7, Y106]
theorem Yvv : ∀ d : Datum, wY (Ye7 d) = wD d := by
 refine Datum.ind fun d ih => ?_
 have h : ∀ L : List Datum, (∀ x ∈ L, wY (Ye7 x) = wD x) -> sumBy wY (L.map Ye7) = sumBy wD L := by
  intro L; induction L with
  | nil => intro _; rfl
  | cons x r ihr => intro h; simp only [List.map_cons, sumBy, h x List.mem_cons_self, ihr fun y hy => h y (List.mem_cons_of_mem _ hy)]
 rw [Y14o, Yfq, Yhs]
 simp only [List.length_map, List.length_nil, h d.items ih]; omega
def Y104 : Nat -> Cr -> List Int × Cr
 | 0, c => ([], c)
 | n + 1, c => (Yhb (1 + beX (Y104 n c).2 9) (Y104 n c).1, beC (Y104 n c).2 9)
def Yfg (n : Nat) (c : Cr) : List Int × Cr := Ygg (Y104 n c)
theorem Yws (n : Nat) (c : Cr) : Yfg n c = Y104 n c := Yeq _
theorem Yy0 (c : Cr) : Yfg 0 c = ([], c) := by rw [Yws]; rfl
theorem Yy8 (n : Nat) (c : Cr) : Yfg (n + 1) c = (Yhb (1 + beX (Yfg n c).2 9) (Yfg n c).1, beC (Yfg n c).2 9) := by rw [Yws, Yws]; rfl
theorem Ywz {n : Nat} {c : Cr} (h : okK c) : okK (Yfg n c).2 /\ (Yfg n c).1.length <= n := by
 induction n with
 | zero => rw [Yy0]; exact ⟨h, Nat.le_refl _⟩
 | succ n ih =>
  rw [Yy8]
  have := Yt2 (1 + beX (Yfg n c).2 9) (Yfg n c).1
  exact ⟨Ydm ih.1, by simp only; omega⟩
def sX (c : Cr) : List Int := (Yfg (beX c 4).toNat (beC c 4)).1
def sC (c : Cr) : Cr := (Yfg (beX c 4).toNat (beC c 4)).2
theorem Ysb {c : Cr} (h : okK c) : okK (sC c) := (Ywz (Ydm h)).1
theorem Yvn {c : Cr} (h : okK c) : (sX c).length <= 3 := by
 have h1 := (Ywz (n := (beX c 4).toNat) (Ydm (n := 4) h)).2
 have h2 := Yer c (n := 4) (by decide)
 unfold sX; omega
def anL : List Int := [0, 1, -1, 99999, 100000]
def asX (c : Cr) : List Int := if beX (sC c) 6 = 0 then sX c ++ [anL.getD (beX (beC (sC c) 6) 5).toNat default] else sX c
def asC (c : Cr) : Cr := if beX (sC c) 6 = 0 then beC (beC (sC c) 6) 5 else beC (sC c) 6
theorem Y1b8 {c : Cr} (h : okK c) : okK (asC c) := by unfold asC; split; exact Ydm (Ydm (Ysb h)); exact Ydm (Ysb h)
theorem Y14h {c : Cr} (h : okK c) : (asX c).length <= 4 := by
 have := Yvn h
 unfold asX; split
 ·rw [List.length_append, List.length_singleton]; omega
 ·omega
theorem Y1m0 {c : Cr} (h : beX (sC c) 6 = 0) : asX c = sX c ++ [anL.getD (beX (beC (sC c) 6) 5).toNat default] /\ asC c = beC (beC (sC c) 6) 5 := ⟨if_pos h, if_pos h⟩
theorem Y1m4 {c : Cr} (h : ¬ beX (sC c) 6 = 0) : asX c = sX c /\ asC c = beC (sC c) 6 := ⟨if_neg h, if_neg h⟩
def mx0 (k : Int) (s : List Int) (c : Cr) : List Int × Cr := if k = 1 then (if beX c 2 = 0 then (sX (beC c 2), sC (beC c 2)) else (s, beC c 2)) else (s, c)
mutual
def mxY : YS -> Cr -> YS × Cr
 | ⟨k, n, t, s, l⟩, c => (⟨k, n, t, (mx0 k s c).1, (Yt6 l (mx0 k s c).2).1⟩, (Yt6 l (mx0 k s c).2).2)
def Yt6 : List YS -> Cr -> List YS × Cr
 | [], c => ([], c)
 | x :: r, c => ((mxY x c).1 :: (Yt6 r (mxY x c).2).1, (Yt6 r (mxY x c).2).2)
end
def mxT (l : List YS) (c : Cr) : Nat -> List YS × Cr
 | 0 => ([], c)
 | k + 1 => ((mxT l c k).1 ++ [(mxY (l.getD k default) (mxT l c k).2).1], (mxY (l.getD k default) (mxT l c k).2).2)
theorem Y122 (x : YS) (r : List YS) (c : Cr) : ∀ k, mxT (x :: r) c (k + 1) = ((mxY x c).1 :: (mxT r (mxY x c).2 k).1, (mxT r (mxY x c).2 k).2)
 | 0 => by simp [mxT]
 | k + 1 => by rw [mxT, Y122 x r c k]; simp [mxT]
theorem Y161 : ∀ (l : List YS) (c : Cr), Yt6 l c = mxT l c l.length
 | [], c => by simp [Yt6, mxT]
 | x :: r, c => by rw [Yt6, List.length_cons, Y122, Y161 r]
theorem Y1gu (l : List YS) (c : Cr) (k : Nat) : (mxT l c k).1.length = k := by
 induction k with
 | zero => rfl
 | succ k ih => simp [mxT, ih]
def mxH (x : YS) (c : Cr) : YS × Cr := Ygg (mxY x c)
theorem Y1am (x : YS) (c : Cr) : mxH x c = mxY x c := Yeq _
def mxN (l : List YS) (c : Cr) (k : Nat) : List YS × Cr := Ygg (mxT l c k)
theorem Yrj (l : List YS) (c : Cr) (k : Nat) : mxN l c k = mxT l c k := Yeq _
theorem Yox (l : List YS) (c : Cr) : mxN l c 0 = ([], c) := by rw [Yrj]; rfl
theorem Yop (l : List YS) (c : Cr) (k : Nat) : mxN l c (k + 1) = ((mxN l c k).1 ++ [(mxH (l.getD k default) (mxN l c k).2).1], (mxH (l.getD k default) (mxN l c k).2).2) := by
 rw [Yrj, Yrj, Y1am]; rfl
def mxS (l : List YS) (c : Cr) (k : Nat) : List YS := Ygg ((mxN l c k).1 ++ l.drop k)
theorem Ymk (l : List YS) (c : Cr) (k : Nat) : mxS l c k = (mxN l c k).1 ++ l.drop k := Yeq _
theorem Yo8 (l : List YS) (c : Cr) (k : Nat) : (mxN l c k).1.length = k := by rw [Yrj]; exact Y1gu l c k
theorem Y15v {l : List YS} {c : Cr} {k : Nat} (h : k <= l.length) : (mxS l c k).length = l.length := by
 rw [Ymk, List.length_append, Yo8, List.length_drop]; omega
theorem Y15c {l : List YS} {c : Cr} {k : Nat} (h : k < l.length) : (mxS l c k).getD k default = l.getD k default := by
 rw [Ymk, Yfj h, List.getD_eq_getElem?_getD, List.getElem?_append_right (by rw [Yo8]; exact Nat.le_refl _), Yo8]
 simp
theorem Y1ck (l : List YS) (c : Cr) : mxS l c 0 = l := by rw [Ymk, Yox]; rfl
theorem Y140 {l : List YS} {c : Cr} {k : Nat} (h : k < l.length) : ((mxS l c k).map Ycz).set k (Yda (mxH (l.getD k default) (mxN l c k).2).1) = (mxS l c (k + 1)).map Ycz := by
 rw [<- Ym4, Ymk, Ymk, Yop, Yfj h, List.map_append, List.set_append_right _ _ (by rw [List.length_map, Yo8]; exact Nat.le_refl _), List.length_map, Yo8, Nat.sub_self]
 simp
theorem Ynn (x : YS) (c : Cr) : mxH x c = (⟨x.kind, x.number, x.text, (mx0 x.kind x.scopes c).1, mxS x.items (mx0 x.kind x.scopes c).2 x.items.length⟩, (mxN x.items (mx0 x.kind x.scopes c).2 x.items.length).2) := by
 rw [Y1am, Ymk, List.drop_length, List.append_nil, Yrj]
 cases x; simp only [mxY, Y161]
theorem Yt0 (x : YS) (c : Cr) : (mxH x c).1.kind = x.kind /\ (mxH x c).1.number = x.number /\ (mxH x c).1.text = x.text := by
 rw [Ynn]; exact ⟨rfl, rfl, rfl⟩
theorem Y1f9 {l : List YS} {c : Cr} {k : Nat} (h : k < l.length) : ((mxS l c k).map Ycz).set k
  [cI ((mxS l c k).getD k default).kind, cI ((mxS l c k).getD k default).number, cS ((mxS l c k).getD k default).text,
   .list ((mxH ((mxS l c k).getD k default) (mxN l c k).2).1.scopes.map Yd2), .list ((mxH ((mxS l c k).getD k default) (mxN l c k).2).1.items.map Ycz)] = (mxS l c (k + 1)).map Ycz := by
 rw [Y15c h, <- Y140 h]
 unfold Yda
 rw [(Yt0 _ _).1, (Yt0 _ _).2.1, (Yt0 _ _).2.2]
theorem Yzr {k : Int} {s : List Int} {c : Cr} (h : okK c) : okK (mx0 k s c).2 /\ (mx0 k s c).1.length <= s.length + 3 := by
 unfold mx0
 split
 ·split
  ·exact ⟨Ysb (Ydm h), by have := Yvn (Ydm (n := 2) h); simp only; omega⟩
  ·exact ⟨Ydm h, by simp only; omega⟩
 ·exact ⟨h, by simp only; omega⟩
theorem Y1k2 {k : Int} {s : List Int} {c : Cr} (h : k = 1) (h2 : beX c 2 = 0) : mx0 k s c = (sX (beC c 2), sC (beC c 2)) := by unfold mx0; rw [if_pos h, if_pos h2]
theorem Y1kz {k : Int} {s : List Int} {c : Cr} (h : k = 1) (h2 : ¬ beX c 2 = 0) : mx0 k s c = (s, beC c 2) := by unfold mx0; rw [if_pos h, if_neg h2]
theorem Y1k3 {k : Int} {s : List Int} {c : Cr} (h : ¬ k = 1) : mx0 k s c = (s, c) := by unfold mx0; rw [if_neg h]
theorem Y1b0 : ∀ (x : YS) (c : Cr), okK c -> okK (mxH x c).2 /\ wY (mxH x c).1 + 3 <= 4 * wY x + 6 := by
 refine YS.ind fun x ih c h => ?_
 have key : ∀ k, k <= x.items.length -> okK (mxN x.items (mx0 x.kind x.scopes c).2 k).2 /\ sumBy wY (mxN x.items (mx0 x.kind x.scopes c).2 k).1 <= 4 * sumBy wY (x.items.take k) + 3 * k := by
  intro k
  induction k with
  | zero => intro _; rw [Yox]; exact ⟨(Yzr h).1, by simp [sumBy]⟩
  | succ k ihk =>
   intro hk
   obtain ⟨h1, h2⟩ := ihk (by omega)
   obtain ⟨h3, h4⟩ := ih _ (Yd6 (by omega : k < x.items.length)) _ h1
   rw [Yop]
   refine ⟨h3, ?_⟩
   rw [Yes, Ygx wY (by omega : k < x.items.length)]
   simp only [sumBy]; omega
 obtain ⟨h1, h2⟩ := key x.items.length (Nat.le_refl _)
 rw [List.take_length] at h2
 rw [Ynn]
 refine ⟨h1, ?_⟩
 have h3 := (Yzr (k := x.kind) (s := x.scopes) h).2
 have h4 := Yfq x
 rw [Yfq]
 simp only
 rw [Y15v (Nat.le_refl _), Ymk, List.drop_length, List.append_nil]
 omega
theorem Y1b1 {l : List YS} {c : Cr} (h : okK c) : ∀ k, okK (mxN l c k).2
 | 0 => by rw [Yox]; exact h
 | k + 1 => by rw [Yop]; exact (Y1b0 _ _ (Y1b1 h k)).1
def dyX (c : Cr) : YS × Cr := mxH (Ye7 (Yd9 4 c).1) (Yd9 4 c).2
theorem Y1a0 {c : Cr} (h : okK c) : okK (dyX c).2 /\ wY (dyX c).1 <= 110000 := by
 have h1 := Ymc 4 c h
 rw [<- (show Yd9 4 c = Yid 4 c from Yjl 4 c)] at h1
 have h2 := Y1b0 (Ye7 (Yd9 4 c).1) _ h1.2
 rw [Yvv] at h2
 have e : (40 * 5 ^ 4 : Nat) = 25000 := by decide
 exact ⟨h2.1, by have := h1.1; have := h2.2; show wY (mxH _ _).1 <= _; omega⟩
def ayG (c : Cr) : YS × Cr := if beX c 6 = 0 then (Ye7 (Ygc (beC c 6)).1, (Ygc (beC c 6)).2) else
 if beX (dyX (beC c 6)).2 6 = 0 then (⟨(dyX (beC c 6)).1.kind, (dyX (beC c 6)).1.number, (dyX (beC c 6)).1.text, asX (beC (dyX (beC c 6)).2 6), (dyX (beC c 6)).1.items⟩, asC (beC (dyX (beC c 6)).2 6))
 else ((dyX (beC c 6)).1, beC (dyX (beC c 6)).2 6)
def ayX (c : Cr) : YS × Cr := Ygg (ayG c)
theorem Y112 (c : Cr) : ayX c = ayG c := Yeq _
theorem Y1ir {c : Cr} (h : beX c 6 = 0) : ayX c = (Ye7 (Ygc (beC c 6)).1, (Ygc (beC c 6)).2) := by rw [Y112]; exact if_pos h
theorem Y1hj {c : Cr} (h : ¬ beX c 6 = 0) (h2 : beX (dyX (beC c 6)).2 6 = 0) : ayX c = (⟨(dyX (beC c 6)).1.kind, (dyX (beC c 6)).1.number, (dyX (beC c 6)).1.text, asX (beC (dyX (beC c 6)).2 6), (dyX (beC c 6)).1.items⟩, asC (beC (dyX (beC c 6)).2 6)) := by
 rw [Y112]; unfold ayG; rw [if_neg h, if_pos h2]
theorem Y1jq {c : Cr} (h : ¬ beX c 6 = 0) (h2 : ¬ beX (dyX (beC c 6)).2 6 = 0) : ayX c = ((dyX (beC c 6)).1, beC (dyX (beC c 6)).2 6) := by
 rw [Y112]; unfold ayG; rw [if_neg h, if_neg h2]
theorem Y1hm {c : Cr} (h : okK c) : okK (ayX c).2 /\ wY (ayX c).1 <= 200000 := by
 have h1 := Y1a0 (Ydm (n := 6) h)
 by_cases a : beX c 6 = 0
 ·rw [Y1ir a]
  have h2 := Y14n (Ydm (n := 6) h)
  exact ⟨h2.2, by show wY (Ye7 _) <= _; rw [Yvv]; have := h2.1; omega⟩
 ·by_cases b : beX (dyX (beC c 6)).2 6 = 0
  ·rw [Y1hj a b]
   have h2 := Y14h (Ydm (n := 6) h1.1)
   refine ⟨Y1b8 (Ydm h1.1), ?_⟩
   have h3 := Yfq (dyX (beC c 6)).1
   rw [Yfq]; simp only; omega
  ·rw [Y1jq a b]; exact ⟨Ydm h1.1, by have := h1.2; simp only; omega⟩
def nmL : List ByteArray := [mkS [120], mkS [121], mkS [116, 109, 112], mkS [105, 102]]
def nuL : List Int := [-1, 11, 12, 13, 14, 99999, 100000]
def teL : List ByteArray := [mkS [], mkS [49]]
def b2 (c : Cr) : Cr := sC (beC c 4)
def b4 (c : Cr) : Cr := beC (beC (b2 c) 4) 9
def b5 (c : Cr) : Cr := beC (b4 c) 14
def bd0 (c : Cr) : YB := ⟨nmL.getD (beX c 4).toNat default, sX (beC c 4), 1 + beX (b2 c) 4, beX (beC (b2 c) 4) 9⟩
def bdG (c : Cr) : YB × Cr := if beX (b4 c) 14 = 0 then (⟨(bd0 c).text, (bd0 c).scopes, beX (b5 c) 7 - 1, (bd0 c).number⟩, beC (b5 c) 7)
 else if beX (b4 c) 14 = 1 then (⟨(bd0 c).text, (bd0 c).scopes, (bd0 c).kind, nuL.getD (beX (b5 c) 7).toNat default⟩, beC (b5 c) 7)
 else if beX (b4 c) 14 = 2 then (⟨(bd0 c).text, asX (b5 c), (bd0 c).kind, (bd0 c).number⟩, asC (b5 c))
 else if beX (b4 c) 14 = 3 then (⟨teL.getD (beX (b5 c) 2).toNat default, (bd0 c).scopes, (bd0 c).kind, (bd0 c).number⟩, beC (b5 c) 2)
 else (bd0 c, b5 c)
def bdX (c : Cr) : YB × Cr := Ygg (bdG c)
theorem Yqy (c : Cr) : bdX c = bdG c := Yeq _
section
variable {c : Cr}
theorem Y1in (h : beX (b4 c) 14 = 0) : bdX c = (⟨(bd0 c).text, (bd0 c).scopes, beX (b5 c) 7 - 1, (bd0 c).number⟩, beC (b5 c) 7) := by rw [Yqy]; exact if_pos h
theorem Y1jh (h : beX (b4 c) 14 = 1) : bdX c = (⟨(bd0 c).text, (bd0 c).scopes, (bd0 c).kind, nuL.getD (beX (b5 c) 7).toNat default⟩, beC (b5 c) 7) := by rw [Yqy]; unfold bdG; rw [if_neg (by omega), if_pos h]
theorem Y1io (h : beX (b4 c) 14 = 2) : bdX c = (⟨(bd0 c).text, asX (b5 c), (bd0 c).kind, (bd0 c).number⟩, asC (b5 c)) := by rw [Yqy]; unfold bdG; rw [if_neg (by omega), if_neg (by omega), if_pos h]
theorem Y1jt (h : beX (b4 c) 14 = 3) : bdX c = (⟨teL.getD (beX (b5 c) 2).toNat default, (bd0 c).scopes, (bd0 c).kind, (bd0 c).number⟩, beC (b5 c) 2) := by rw [Yqy]; unfold bdG; rw [if_neg (by omega), if_neg (by omega), if_neg (by omega), if_pos h]
theorem Y1jd (h : 3 < beX (b4 c) 14) : bdX c = (bd0 c, b5 c) := by rw [Yqy]; unfold bdG; rw [if_neg (by omega), if_neg (by omega), if_neg (by omega), if_neg (by omega)]
end
theorem Y1jp : ∀ n : Nat, (nmL.getD n default).size <= 4 := by
 intro n
 rcases Nat.lt_or_ge n 4 with h | h
 ·have : ∀ n, n < 4 -> (nmL.getD n default).size <= 4 := by decide
  exact this n h
 ·rw [List.getD_eq_getElem?_getD, List.getElem?_eq_none (by exact h)]; decide
theorem Y1hp : ∀ n : Nat, (teL.getD n default).size <= 4 := by
 intro n
 rcases Nat.lt_or_ge n 2 with h | h
 ·have : ∀ n, n < 2 -> (teL.getD n default).size <= 4 := by decide
  exact this n h
 ·rw [List.getD_eq_getElem?_getD, List.getElem?_eq_none (by exact h)]; decide
theorem Yum {c : Cr} (h : okK c) : okK (bdX c).2 /\ wB (bdX c).1 <= 20 := by
 have o2 : okK (b2 c) := Ysb (Ydm h)
 have o4 : okK (b4 c) := Ydm (Ydm o2)
 have o5 : okK (b5 c) := Ydm o4
 have h1 := Y1jp (beX c 4).toNat
 have h2 := Yvn (Ydm (n := 4) h)
 have h3 := Y14h o5
 have h4 := Y1hp (beX (b5 c) 2).toNat
 have h5 := Yer (b4 c) (n := 14) (by decide)
 have e0 : (bd0 c).text = nmL.getD (beX c 4).toNat default := rfl
 have e1 : (bd0 c).scopes = sX (beC c 4) := rfl
 rcases (by omega : beX (b4 c) 14 = 0 ∨ beX (b4 c) 14 = 1 ∨ beX (b4 c) 14 = 2 ∨ beX (b4 c) 14 = 3 ∨ 3 < beX (b4 c) 14) with a | a | a | a | a
 ·rw [Y1in a]; exact ⟨Ydm o5, by rw [Ypn]; simp only [e0, e1]; omega⟩
 ·rw [Y1jh a]; exact ⟨Ydm o5, by rw [Ypn]; simp only [e0, e1]; omega⟩
 ·rw [Y1io a]; exact ⟨Y1b8 o5, by rw [Ypn]; simp only [e0]; omega⟩
 ·rw [Y1jt a]; exact ⟨Ydm o5, by rw [Ypn]; simp only [e1]; omega⟩
 ·rw [Y1jd a]; exact ⟨o5, by rw [Ypn]; simp only [e0, e1]; omega⟩
def Ykw (L : List YB) (b : YB) : Bool := Yig b && !Yh4 L b.text b.scopes
def tbG : Nat -> Cr -> List YB × Cr
 | 0, c => ([], c)
 | n + 1, c => if Ykw (tbG n c).1 (bdX (tbG n c).2).1 = true then ((tbG n c).1 ++ [(bdX (tbG n c).2).1], (bdX (tbG n c).2).2)
   else if beX (bdX (tbG n c).2).2 20 = 0 then ((tbG n c).1 ++ [(bdX (tbG n c).2).1], beC (bdX (tbG n c).2).2 20) else ((tbG n c).1, beC (bdX (tbG n c).2).2 20)
def tbH (n : Nat) (c : Cr) : List YB × Cr := Ygg (tbG n c)
theorem Ymz (n : Nat) (c : Cr) : tbH n c = tbG n c := Yeq _
theorem Y10t (c : Cr) : tbH 0 c = ([], c) := by rw [Ymz]; rfl
theorem Y1en {n : Nat} {c : Cr} (h : Ykw (tbH n c).1 (bdX (tbH n c).2).1 = true) : tbH (n + 1) c = ((tbH n c).1 ++ [(bdX (tbH n c).2).1], (bdX (tbH n c).2).2) := by rw [Ymz] at *; rw [Ymz, tbG, if_pos h]
theorem Y1ex {n : Nat} {c : Cr} (h : Ykw (tbH n c).1 (bdX (tbH n c).2).1 = false) (h2 : beX (bdX (tbH n c).2).2 20 = 0) : tbH (n + 1) c = ((tbH n c).1 ++ [(bdX (tbH n c).2).1], beC (bdX (tbH n c).2).2 20) := by rw [Ymz] at *; rw [Ymz, tbG, if_neg (by rw [h]; decide), if_pos h2]
theorem Y1ei {n : Nat} {c : Cr} (h : Ykw (tbH n c).1 (bdX (tbH n c).2).1 = false) (h2 : ¬ beX (bdX (tbH n c).2).2 20 = 0) : tbH (n + 1) c = ((tbH n c).1, beC (bdX (tbH n c).2).2 20) := by rw [Ymz] at *; rw [Ymz, tbG, if_neg (by rw [h]; decide), if_neg h2]
theorem Y18a {n : Nat} {c : Cr} (h : okK c) : okK (tbH n c).2 /\ (tbH n c).1.length <= n /\ sumBy wB (tbH n c).1 <= 20 * n := by
 induction n with
 | zero => rw [Y10t]; exact ⟨h, Nat.le_refl _, Nat.le_refl _⟩
 | succ n ih =>
  have h1 := Yum ih.1
  cases a : Ykw (tbH n c).1 (bdX (tbH n c).2).1 with
  | true => rw [Y1en a]; exact ⟨h1.1, by simp only [List.length_append, List.length_singleton]; omega, by simp only [Yes, sumBy]; omega⟩
  | false =>
   by_cases b : beX (bdX (tbH n c).2).2 20 = 0
   ·rw [Y1ex a b]; exact ⟨Ydm h1.1, by simp only [List.length_append, List.length_singleton]; omega, by simp only [Yes, sumBy]; omega⟩
   ·rw [Y1ei a b]; exact ⟨Ydm h1.1, by simp only; omega, by simp only; omega⟩
def tgG : Nat -> Cr -> List YB × Cr
 | 0, c => (Yf7, c)
 | n + 1, c => if Ykw (tgG n c).1 (bdX (tgG n c).2).1 = true then ((tgG n c).1 ++ [(bdX (tgG n c).2).1], (bdX (tgG n c).2).2) else ((tgG n c).1, (bdX (tgG n c).2).2)
def tgH (n : Nat) (c : Cr) : List YB × Cr := Ygg (tgG n c)
theorem Yrm (n : Nat) (c : Cr) : tgH n c = tgG n c := Yeq _
theorem Y12l (c : Cr) : tgH 0 c = (Yf7, c) := by rw [Yrm]; rfl
theorem Y1ej {n : Nat} {c : Cr} (h : Ykw (tgH n c).1 (bdX (tgH n c).2).1 = true) : tgH (n + 1) c = ((tgH n c).1 ++ [(bdX (tgH n c).2).1], (bdX (tgH n c).2).2) := by rw [Yrm] at *; rw [Yrm, tgG, if_pos h]
theorem Y1el {n : Nat} {c : Cr} (h : Ykw (tgH n c).1 (bdX (tgH n c).2).1 = false) : tgH (n + 1) c = ((tgH n c).1, (bdX (tgH n c).2).2) := by rw [Yrm] at *; rw [Yrm, tgG, if_neg (by rw [h]; decide)]
theorem Y1ah : Yf7.length = 26 /\ sumBy wB Yf7 <= 400 := by decide
theorem Y19p {n : Nat} {c : Cr} (h : okK c) : okK (tgH n c).2 /\ (tgH n c).1.length <= 26 + n /\ sumBy wB (tgH n c).1 <= 400 + 20 * n := by
 induction n with
 | zero => rw [Y12l]; exact ⟨h, by have := Y1ah.1; simp only; omega, by have := Y1ah.2; simp only; omega⟩
 | succ n ih =>
  have h1 := Yum ih.1
  cases a : Ykw (tgH n c).1 (bdX (tgH n c).2).1 with
  | true => rw [Y1ej a]; exact ⟨h1.1, by simp only [List.length_append, List.length_singleton]; omega, by simp only [Yes, sumBy]; omega⟩
  | false => rw [Y1el a]; exact ⟨h1.1, by simp only; omega, by simp only; omega⟩
def t3G (c : Cr) : List YB × Cr := tbH (beX c 9).toNat (beC c 9)
def t3X (c : Cr) : List YB × Cr := Ygg (t3G c)
theorem Y1a9 (c : Cr) : t3X c = tbH (beX c 9).toNat (beC c 9) := Yeq _
theorem Y1iz {c : Cr} (h : okK c) : okK (t3X c).2 /\ (t3X c).1.length <= 100 /\ sumBy wB (t3X c).1 <= 1000 := by
 have h1 := Y18a (n := (beX c 9).toNat) (Ydm (n := 9) h)
 have h2 := Yer c (n := 9) (by decide)
 rw [Y1a9]; exact ⟨h1.1, by omega, by omega⟩
def tg (c : Cr) : List YB × Cr := tgH (beX c 3).toNat (beC c 3)
def taG (c : Cr) : List YB × Cr := if beX (tg c).2 14 = 0 then t3X (beC (tg c).2 14) else ((tg c).1, beC (tg c).2 14)
def taX (c : Cr) : List YB × Cr := Ygg (taG c)
theorem Y18d (c : Cr) : taX c = taG c := Yeq _
theorem Y1ic {c : Cr} (h : beX (tg c).2 14 = 0) : taX c = t3X (beC (tg c).2 14) := by rw [Y18d]; exact if_pos h
theorem Y1k0 {c : Cr} (h : ¬ beX (tg c).2 14 = 0) : taX c = ((tg c).1, beC (tg c).2 14) := by rw [Y18d]; exact if_neg h
theorem Y1ev {c : Cr} (h : okK c) : okK (tg c).2 /\ (tg c).1.length <= 30 /\ sumBy wB (tg c).1 <= 500 := by
 have h1 := Y19p (n := (beX c 3).toNat) (Ydm (n := 3) h)
 have h2 := Yer c (n := 3) (by decide)
 exact ⟨h1.1, by unfold tg; omega, by unfold tg; omega⟩
theorem Y1aa {c : Cr} (h : okK c) : okK (taX c).2 /\ (taX c).1.length <= 100 /\ sumBy wB (taX c).1 <= 1000 := by
 have h1 := Y1ev h
 by_cases a : beX (tg c).2 14 = 0
 ·rw [Y1ic a]; exact Y1iz (Ydm h1.1)
 ·rw [Y1k0 a]; exact ⟨Ydm h1.1, by simp only; omega, by simp only; omega⟩
def Yjd : List ByteArray := [mkS [40, 120, 32, 121, 41], mkS [40, 120, 32, 46, 46, 46, 41], mkS [40, 40, 120, 32, 121, 41, 32, 46, 46, 46, 41], mkS [40, 120, 32, 46, 46, 46, 32, 121, 41], mkS [40, 40, 120, 32, 46, 46, 46, 41, 32, 46, 46, 46, 41], mkS [40, 101, 108, 115, 101, 32, 120, 41], mkS [95], mkS [120], mkS [40, 49, 32, 120, 41], mkS [40, 120, 32, 120, 41], mkS [40, 46, 46, 46, 32, 120, 41], mkS [40, 120, 32, 46, 46, 46, 32, 121, 32, 46, 46, 46, 41], mkS [40, 34, 97, 34, 32, 40, 120, 41, 32, 46, 46, 46, 41], mkS [40, 41], mkS [40, 40, 40, 40, 120, 32, 46, 46, 46, 41, 32, 46, 46, 46, 41, 32, 46, 46, 46, 41, 32, 46, 46, 46, 41]]
def Y1m5 : List Datum := [Yej [(Ye0 (mkS [120])), (Ye0 (mkS [121]))], Yej [(Ye0 (mkS [120])), (Ye0 (mkS [46, 46, 46]))], Yej [Yej [(Ye0 (mkS [120])), (Ye0 (mkS [121]))], (Ye0 (mkS [46, 46, 46]))], Yej [(Ye0 (mkS [120])), (Ye0 (mkS [46, 46, 46])), (Ye0 (mkS [121]))], Yej [Yej [(Ye0 (mkS [120])), (Ye0 (mkS [46, 46, 46]))], (Ye0 (mkS [46, 46, 46]))], Yej [(Ye0 (mkS [101, 108, 115, 101])), (Ye0 (mkS [120]))], (Ye0 (mkS [95])), (Ye0 (mkS [120])), Yej [⟨2, 1, mkS [], []⟩, (Ye0 (mkS [120]))], Yej [(Ye0 (mkS [120])), (Ye0 (mkS [120]))], Yej [(Ye0 (mkS [46, 46, 46])), (Ye0 (mkS [120]))], Yej [(Ye0 (mkS [120])), (Ye0 (mkS [46, 46, 46])), (Ye0 (mkS [121])), (Ye0 (mkS [46, 46, 46]))], Yej [⟨4, 0, mkS [97], []⟩, Yej [(Ye0 (mkS [120]))], (Ye0 (mkS [46, 46, 46]))], Yej [], Yej [Yej [Yej [Yej [(Ye0 (mkS [120])), (Ye0 (mkS [46, 46, 46]))], (Ye0 (mkS [46, 46, 46]))], (Ye0 (mkS [46, 46, 46]))], (Ye0 (mkS [46, 46, 46]))]]
def Ylp : List ByteArray := [mkS [40, 49, 32, 50, 41], mkS [40, 41], mkS [40, 40, 49, 32, 50, 41, 32, 40, 51, 32, 52, 41, 41], mkS [40, 49, 32, 50, 32, 51, 41], mkS [40, 40, 49, 32, 50, 41, 32, 40, 41, 32, 40, 51, 41, 41], mkS [40, 101, 108, 115, 101, 32, 53, 41], mkS [40, 49, 32, 120, 41], mkS [53], mkS [120], mkS [40, 34, 97, 34, 32, 40, 49, 41, 32, 40, 50, 41, 41], mkS [40, 120, 32, 121, 41], mkS [40, 40, 97, 45, 98, 32, 49, 41, 32, 40, 102, 32, 50, 41, 41]]
def Y1lz : List Datum := [Yej [⟨2, 1, mkS [], []⟩, ⟨2, 2, mkS [], []⟩], Yej [], Yej [Yej [⟨2, 1, mkS [], []⟩, ⟨2, 2, mkS [], []⟩], Yej [⟨2, 3, mkS [], []⟩, ⟨2, 4, mkS [], []⟩]], Yej [⟨2, 1, mkS [], []⟩, ⟨2, 2, mkS [], []⟩, ⟨2, 3, mkS [], []⟩], Yej [Yej [⟨2, 1, mkS [], []⟩, ⟨2, 2, mkS [], []⟩], Yej [], Yej [⟨2, 3, mkS [], []⟩]], Yej [(Ye0 (mkS [101, 108, 115, 101])), ⟨2, 5, mkS [], []⟩], Yej [⟨2, 1, mkS [], []⟩, (Ye0 (mkS [120]))], ⟨2, 5, mkS [], []⟩, (Ye0 (mkS [120])), Yej [⟨4, 0, mkS [97], []⟩, Yej [⟨2, 1, mkS [], []⟩], Yej [⟨2, 2, mkS [], []⟩]], Yej [(Ye0 (mkS [120])), (Ye0 (mkS [121]))], Yej [Yej [(Ye0 (mkS [97, 45, 98])), ⟨2, 1, mkS [], []⟩], Yej [(Ye0 (mkS [102])), ⟨2, 2, mkS [], []⟩]]]
def Ygo (i : Nat) : Datum := Y1m5.getD i default
def Ygr (i : Nat) : Datum := Y1lz.getD i default
theorem Y1jg : ∀ i, i < 15 -> Yk0 [Ygo i] (Yjd.getD i default) = true := by decide +kernel
theorem Y1ip : ∀ i, i < 12 -> Yk0 [Ygr i] (Ylp.getD i default) = true := by decide +kernel
theorem Y1eu : ∀ i, i < 15 -> wD (Ygo i) <= 100 /\ (Yjd.getD i default).size <= 100 := by decide +kernel
theorem Y1eh : ∀ i, i < 12 -> wD (Ygr i) <= 100 /\ (Ylp.getD i default).size <= 100 := by decide +kernel
def Yg3 : ByteArray := mkS [101, 108, 115, 101]
theorem Y1hc : Yk0 [Ye0 Yg3] Yg3 = true := by decide +kernel
def Yeh (d : Datum) : List Datum := Ygg [d]
theorem Ywy (d : Datum) : Yeh d = [d] := Yeq _
theorem Ytg (d : Datum) : (Yeh d).length = 1 := by rw [Ywy]; rfl
theorem Ypo (d : Datum) : (Yeh d).getD 0 default = d := by rw [Ywy]; rfl
abbrev un (d : Datum) : YS := Ye7 ((Yeh d).getD 0 default)
theorem Y1lg (d : Datum) : un d = Ye7 d := by unfold un; rw [Ypo]
theorem Y1jv (d : Datum) : wY (un d) = wD d := by rw [Y1lg, Yvv]
theorem rd1 {d : Datum} {s : ByteArray} (h : Yk0 [d] s = true) : Yk0 (Yeh d) s = true := by rw [Ywy]; exact h
def mp1 (b : List UInt8) : Cr := (taX (Yn1 b)).2
def mpB (b : List UInt8) : List YB := (taX (Yn1 b)).1
def mp2 (b : List UInt8) : Cr := beC (mp1 b) 2
def mpL (b : List UInt8) : List YS := Ygg (if beX (mp1 b) 2 = 0 then [un (Ye0 Yg3)] else [])
def mpI (b : List UInt8) : Nat := (beX (mp2 b) 15).toNat
def mpP (b : List UInt8) : YS := un (Ygo (mpI b))
def mp3 (b : List UInt8) : Cr := beC (mp2 b) 15
def mp4 (b : List UInt8) : Cr := beC (mp3 b) 8
def mpF (b : List UInt8) : YS := Ygg (if beX (mp3 b) 8 = 0 then (ayX (mp4 b)).1 else un (Ygr (beX (mp4 b) 12).toNat))
theorem Y1lr {b : List UInt8} (h : beX (mp1 b) 2 = 0) : mpL b = [un (Ye0 Yg3)] := by unfold mpL; rw [Yeq]; exact if_pos h
theorem Y1l0 {b : List UInt8} (h : ¬ beX (mp1 b) 2 = 0) : mpL b = [] := by unfold mpL; rw [Yeq]; exact if_neg h
theorem Y1ea {b : List UInt8} (h : beX (mp3 b) 8 = 0) : mpF b = (ayX (mp4 b)).1 := by unfold mpF; rw [Yeq]; exact if_pos h
theorem Y1es {b : List UInt8} (h : ¬ beX (mp3 b) 8 = 0) : mpF b = un (Ygr (beX (mp4 b) 12).toNat) := by unfold mpF; rw [Yeq]; exact if_neg h
theorem Y1ee {b : List UInt8} (h : b.length <= 1048576) : okK (mp1 b) /\ okK (mp2 b) /\ okK (mp3 b) /\ okK (mp4 b) := by
 have h1 := (Y1aa (Yxk h)).1
 exact ⟨h1, Ydm h1, Ydm (Ydm h1), Ydm (Ydm (Ydm h1))⟩
theorem Y19s (b : List UInt8) : mpI b < 15 := by have := Yer (mp2 b) (n := 15) (by decide); unfold mpI; omega
theorem Y1eg (b : List UInt8) : wY (mpP b) <= 100 := by unfold mpP; rw [Y1jv]; exact (Y1eu _ (Y19s b)).1
theorem Y1ef {b : List UInt8} (h : b.length <= 1048576) : wY (mpF b) <= 200000 := by
 by_cases a : beX (mp3 b) 8 = 0
 ·rw [Y1ea a]; exact (Y1hm (Y1ee h).2.2.2).2
 ·rw [Y1es a, Y1jv]
  have h1 := Yer (mp4 b) (n := 12) (by decide)
  have := (Y1eh (beX (mp4 b) 12).toNat (by omega)).1; omega
theorem Y1l9 {b : List UInt8} (h : b.length <= 1048576) : (mpB b).length <= 100 /\ sumBy wB (mpB b) <= 1000 := (Y1aa (Yxk h)).2
end Go.Proofs.YtclpofblehlojaaGreat
end
section
namespace Go.Proofs.YtclpofblehlojaaGreat
open Go Ab
set_option maxHeartbeats 4000000
abbrev Z6h (L : List Int) (n : Int) : Ct := ⟨200, [], [ll (L.map Yd2), li n], [.arr true 1 ((Yhb n L).map Yd2)], .sv (.one (.ref 0))⟩
def Z4b (L : List Int) (n : Int) : Lp Nat := .mk 42 0 (fun x => [(1, li n), (5, .one (.ref 0)), (6, hs x 1), (10, ll (L.map Yd2)), (11, li (↑(List.map Yd2
 L).length : Int)), (12, hs x 0)]) (fun x => [ho x 2]) (fun k => [.s (li (k : Int)), .s (lb (plN n (L.take k))), .o (.arr true 1 ((Yfd n L k).map Yd2))]) (fun k => k
 <= L.length /\ L.length <= 9223372036854775807) (fun k => L.length - k) [.mk True (.exit 0) (fun x => [(1, li n), (5, .one (.ref 0)), (6, hs x 0)]) (fun x => [ho x 1]) [.s (lb
 (plN n (List.take L.length L))), .o (.arr true 1 ((Yfd n L L.length).map Yd2))]]
theorem Zb5 (L : List Int) (n : Int) (h : L.length <= 2147483600) : Lp.Sem Tryz.prog (Ydg Tryz.f200 0) (Z4b L n) := Ydr (fun k => .i ((k : Int) < (↑(List.map Yd2
 L).length : Int)) (.x (k : Int) (L.map Yd2) [cI (L.getD k 0)] (.b (!plN n (L.take k)) (.i (n <= L.getD k 0) (.i (n < L.getD k 0) (.p ((((Yfd n L
 k).map Yd2).length + 1) * 8 <= 140737488355328) (.p ((((Yfd n L k).map Yd2 ++ [[cI n]]).length + 1) * 8 <= 140737488355328) (.r ((k : Int) + 1) (.g [4] (k + 1) [.s (li ((k : Int) +
 1)), .s (lb true), .o (.arr true 1 ((Yfd n L k).map Yd2 ++ [[cI n]] ++ [[cI (L.getD k 0)]]))])))) (.p ((((Yfd n L k).map Yd2).length + 1) * 8 <= 140737488355328)
 (.r ((k : Int) + 1) (.g [2] (k + 1) [.s (li ((k : Int) + 1)), .s (lb true), .o (.arr true 1 ((Yfd n L k).map Yd2 ++ [[cI (L.getD k 0)]]))])))) (.p (((List.map Yd2
 (Yfd n L k)).length + 1) * 8 <= 140737488355328) (.r ((k : Int) + 1) (.g [2] (k + 1) [.s (li ((k : Int) + 1)), .s (lb (plN n (L.take k))), .o (.arr true 1 (List.map Yd2
 (Yfd n L k) ++ [[cI (L.getD k 0)]]))])))) (.y false (.p ((((Yfd n L k).map Yd2).length + 1) * 8 <= 140737488355328) (.r ((k : Int) + 1) (.g [2] (k + 1) [.s (li ((k : Int)
 + 1)), .s (lb (plN n (L.take k))), .o (.arr true 1 ((Yfd n L k).map Yd2 ++ [[cI (L.getD k 0)]]))])))))) (.o 0 [0] [.s (lb (plN n (L.take k))), .o (.arr true 1
 ((Yfd n L k).map Yd2))])) (by
 intro k h; try dsimp only [Yd3, Ydb, Z4b] at h ⊢
 have g1 := @Ymp n L k
 have g2 := @Y1gr n L k
 have g3 := @Y1g5 n L k
 have g4 := @Y1fu n L k
 have g5 := @Y1bo n L k
 have g6 := Y10k n L k
 have g0 : k < L.length -> (L.map Yd2)[k]? = some [cI (L.getD k 0)] := fun h => Yq3 h rfl
 with_reducible repeat' (first | apply And.intro | exact zR | (intro))
 all_goals ((try simp only [std, inj] at *); with_reducible and_intros)
 all_goals try first | exact zw | grind [Yd7, Yd8, Yd4])
theorem Z6u (L : List Int) (n : Int) (h : L.length <= 2147483600)  : Z6h L n := Yde Tryz.call200 Tryz.func200 (.w (.bool false) (.z Yd2 L (.l (Z4b L n) (Zb5 L n
 h) [0] [.s (li 0), .s (lb false), .o (.arr true 1 [])] 0 (.t (.b (!plN n (List.take L.length L)) (.p ((((Yfd n L L.length).map Yd2).length + 1) * 8 <= 140737488355328) (.f
 [2] [.arr true 1 ((Yfd n L L.length).map Yd2 ++ [[cI n]])] (.sv (.one (.ref 0))))) (.f [0] [.arr true 1 ((Yfd n L L.length).map Yd2)] (.sv (.one
 (.ref 0))))) .q)))) (by
 dsimp only [Yd3, Z6h, Ydb, Z4b]
 have g1 := @Y1dj n L L.length
 have g2 : Yfd n L 0 = [] := rfl
 have g3 : plN n (L.take 0) = false := rfl
 have g4 := Y10k n L L.length
 with_reducible repeat' (first | apply And.intro | exact zR | (intro))
 all_goals ((try simp only [std, inj] at *); with_reducible and_intros)
 all_goals try first | exact zw | grind [Yd7, Yd8, Yd4])
abbrev Zo (d : Datum) : Ct := ⟨81, [], [Yol d], Yg5 (Ye7 d), .sv (Yg6 (Ye7 d) 0)⟩
def Z3g (d : Datum) : Lp Nat := .mk 29 0 (fun x => [(2, .one (.ptr 0 0)), (3, .one (.ptr 1 0)), (14, ll (d.items.map Ydd)), (15, li (↑(List.map Ydd
 d.items).length : Int)), (16, hs x 0)]) (fun x => [.box [vI 0, vI 0, vS (ByteArray.mk #[]), .val (.lit (.slice none 0 0)), .val (.lit (.slice none 0 0))],
 .box [vI d.kind, vI d.number, vS d.text, .val (.lit (.slice none 0 0)), .ref 2], ho x 1]) (fun k => [.s (li (k : Int)), .o (.arr true 5 (List.map Ycz
 ((d.items.take k).map Ye7)))]) (fun k => k <= d.items.length /\ d.items.length <= 9223372036854775807) (fun k => d.items.length - k) [.mk True (.exit 0) (fun x => [(2,
 .one (.ptr 0 0)), (3, .one (.ptr 1 0))]) (fun x => [.box [vI 0, vI 0, vS (ByteArray.mk #[]), .val (.lit (.slice none 0 0)), .val (.lit (.slice none
 0 0))], .box [vI d.kind, vI d.number, vS d.text, .val (.lit (.slice none 0 0)), .ref 2], ho x 0]) [.o (.arr true 5 ((d.items.map Ye7).map Ycz))]]
theorem Zaa (d : Datum) (h : wD d <= 1048576) (ih : ∀ (z : Datum), z ∈ d.items -> wD z <= 1048576 -> OK (Zo z)) : Lp.Sem Tryz.prog (Ydg Tryz.f81 0) (Z3g d) :=
 Ydr (fun k => .i ((k : Int) < (↑(List.map Ydd d.items).length : Int)) (.x (k : Int) (List.map Ydd d.items) (Yf8 (d.items.getD k default)) (.w (.draw [(4, [8, 9]), (5,
 [2, 16]), (7, [1])]) (.d [.rd] (Zo (d.items.getD k default)) (.p (((List.map Ycz (List.map Ye7 (List.take k d.items))).length + 1) * 80 <= 140737488355328) (.r ((↑k :
 Int) + 1) (.g [0, 1, 17] (k + 1) [.s (li ((k : Int) + 1)), .o (Ob.arr true 5 (List.map Ycz (List.map Ye7 (List.take k d.items)) ++ [Yda (Ye7 (d.items.getD k
 default))]))])))))) (.o 0 [0, 1, 2] [.o (Ob.arr true 5 (List.map Ycz (List.map Ye7 (List.take k d.items))))])) (by
 intro k h; try dsimp only [Yd3, Ydb, Z3g] at h ⊢
 have g1 := Yhs d
 have g2 := @Yew _ wD d.items (d.items.getD k default)
 with_reducible repeat' (first | apply And.intro | exact zR | exact ih | (intro) | apply ih)
 all_goals ((try simp only [std, inj] at *); with_reducible and_intros)
 all_goals try first | with_reducible (first | apply ih) | (simp only [<- List.map_append]; with_reducible first | apply ih)
 all_goals try first | exact z | grind [Ydn, Yd6, Yd7, Yd8, Yd4, Yd6])
theorem Zck (d : Datum) (h : wD d <= 1048576) (ih : ∀ z ∈ d.items, ∀ (h : wD z <= 1048576), Zo z)  : Zo d := Yde Tryz.call81 Tryz.func81 (.z Ydd d.items (.w (.ghost
 (.nilbox 2 4 true 5)) (.l (Z3g d) (Zaa d h ih) [1, 2, 3] [.s (li 0), .o (.arr true 5 [])] 0 (.t (.w (.ghost (.nilbox 0 3 true 1)) (.f [3, 2] [.arr true 1 [],
 .arr true 5 ((d.items.map Ye7).map Ycz)] (.sv (.agg [vI d.kind, vI d.number, vS d.text, .ref 0, .ref 1])))) .q)))) (by
 dsimp only [Yd3, Zo, Ydb, Z3g]
 have g1 := Yhs d
 have g2 := Y14o d
 with_reducible repeat' (first | apply And.intro | exact zR | exact ih | (intro))
 all_goals ((try simp only [std, inj] at *); with_reducible and_intros)
 all_goals try with_reducible first | apply ih
 all_goals (try exact zG))
theorem Z31 (d : Datum) : ∀ (h : wD d <= 1048576), Zo d := Datum.ind (P := fun d => ∀ (h : wD d <= 1048576), Zo d) (fun d ih h => Zck d h ih) d
abbrev Z3x (c : Cr) : Ct := ⟨156, [crO c], [.one (.ptr 0 0)], [crO (sC c), .arr true 1 ((sX c).map Yd2)], .sv (.one (.ref 1))⟩
def Z4c (c : Cr) : Lp (Int) := .mk 18 1 (fun x => [(0, .one (.ptr 0 0)), (3, .one (.ref 1)), (4, hs x 0)]) (fun x => [ho x 1, ho x 2]) (fun k => [.s (li k), .o (crO
 (Yfg (beX c 4 - k).toNat (beC c 4)).snd), .o (.arr true 1 ((Yfg (beX c 4 - k).toNat (beC c 4)).fst.map Yd2))]) (fun k => 0 <= k /\ k <= beX c 4 /\ okK c) (fun k => k.toNat)
 [.mk True (.exit 0) (fun x => [(3, .one (.ref 1))]) (fun x => [ho x 0, ho x 1]) [.o (crO (sC c)), .o (.arr true 1 ((sX c).map Yd2))]]
theorem Zb6 (c : Cr) (h : okK c) : Lp.Sem Tryz.prog (Ydg Tryz.f156 0) (Z4c c) := Ydr (fun k => .i (0 < k) (.d [.ptr, .rd] (Z2 (Yfg (beX c 4 - k).toNat (beC
 c 4)).snd 9) (.r (1 + beX (Yfg (beX c 4 - k).toNat (beC c 4)).snd 9) (.d [.rd, .rd] (Z6h (Yfg (beX c 4 - k).toNat (beC c 4)).fst (1 + beX (Yfg (beX c 4 - k).toNat (beC c
 4)).snd 9)) (.r (k - 1) (.g [0, 2] (k - 1) [.s (li (k - 1)), .o (.box [vL ((beC (Yfg (beX c 4 - k).toNat (beC c 4)).snd 9).b.map Ydi), vI (↑(beC (Yfg (beX c 4 -
 k).toNat (beC c 4)).snd 9).i : Int), vI (beC (Yfg (beX c 4 - k).toNat (beC c 4)).snd 9).h]), .o (.arr true 1 ((Yhb (1 + beX (Yfg (beX c 4 - k).toNat (beC c
 4)).snd 9) (Yfg (beX c 4 - k).toNat (beC c 4)).fst).map Yd2))]))))) (.o 0 [0, 1] [.o (.box [vL ((Yfg (beX c 4 - k).toNat (beC c 4)).snd.b.map Ydi), vI (↑(Yfg (beX c 4 -
 k).toNat (beC c 4)).snd.i : Int), vI (Yfg (beX c 4 - k).toNat (beC c 4)).snd.h]), .o (.arr true 1 ((Yfg (beX c 4 - k).toNat (beC c 4)).fst.map Yd2))])) (by
 intro k h; try dsimp only [Yd3, Ydb, Z4c] at h ⊢
 have hc := h.2.2
 have g1 := Yy8 (beX c 4 - k).toNat (beC c 4)
 have g2 := Ywz (n := (beX c 4 - k).toNat) (Ydm (n := 4) hc)
 have g3 := Yer c (n := 4) (by decide)
 have g4 : 0 < k -> (beX c 4 - (k - 1)).toNat = (beX c 4 - k).toNat + 1 := fun _ => by omega
 have g5 : ¬ 0 < k -> 0 <= k -> Yfg (beX c 4 - k).toNat (beC c 4) = Yfg (beX c 4).toNat (beC c 4) := fun _ _ => by rw [show (beX c 4 - k).toNat = (beX c 4).toNat by omega]
 have g6 := Yer (Yfg (beX c 4 - k).toNat (beC c 4)).2 (n := 9) (by decide)
 have g7 : sC c = (Yfg (beX c 4).toNat (beC c 4)).2 := rfl
 have g8 : sX c = (Yfg (beX c 4).toNat (beC c 4)).1 := rfl
 with_reducible repeat' (first | apply And.intro | exact zR | (intro) | apply Z0 | apply Z6u)
 all_goals ((try simp only [std, inj] at *); with_reducible and_intros)
 all_goals try with_reducible first | apply Z0 | apply Z6u
 all_goals try first | exact zw | grind [crO, Yd7, Yd8, Yd4])
theorem Z2l (c : Cr) (h : okK c)  : Z3x c := Yde Tryz.call156 Tryz.func156 (.w (.bool false) (.d [.ptr, .rd] (Z2 c 4) (.l (Z4c c) (Zb6 c h) [0, 1] [.s
 (li (beX c 4)), .o (.box [vL ((beC c 4).b.map Ydi), vI (↑(beC c 4).i : Int), vI (beC c 4).h]), .o (.arr true 1 [])] (beX c 4) (.t (.f [1] [.box [vL (List.map Ydi
 (sC c).b), vI (↑(sC c).i : Int), vI (sC c).h], .arr true 1 ((sX c).map Yd2)] (.sv (.one (.ref 1)))) .q)))) (by
 dsimp only [Yd3, Z3x, Ydb, Z4c]
 have g3 := Yer c (n := 4) (by decide)
 have e0 : (beX c 4 - beX c 4).toNat = 0 := by omega
 have m0 := Yy0 (beC c 4)
 have g2 := Ydm (n := 4) h
 with_reducible repeat' (first | apply And.intro | exact zR | (intro) | apply Z0 | apply Z6u)
 all_goals ((try simp only [std, inj] at *); with_reducible and_intros)
 all_goals try with_reducible first | apply Z0 | apply Z6u
 all_goals first
  | exact True.intro | with_reducible rfl | with_reducible assumption | omega | exact g2 | decide
  | (rw [e0, m0]; first | done | rfl) | (unfold crO; with_reducible rfl))
abbrev Z4d (c : Cr) : Ct := ⟨84, [crO c], [.one (.ptr 0 0)], [crO (asC c), .arr true 1 ((asX c).map Yd2)], .sv (.one (.ref 1))⟩
theorem Z60 (c : Cr) (h : okK c)  : Z4d c := Yde Tryz.call84 Tryz.func84 (.d [.ptr] (Z3x c) (.d [.ptr, .rd] (Z8 (sC c) 6) (.i (beX (sC c) (6 : Int) = 0) (.d
 [.ptr, .own true 1] (Zl (beC (sC c) 6) [0, 1, (-1 : Int), 99999, 100000]) (.p ((((sX c).map Yd2).length + 1) * 8 <= 140737488355328) (.f [5] [.box [vL (List.map Ydi
 (beC (beC (sC c) 6) 5).b), vI (↑(beC (beC (sC c) 6) 5).i : Int), vI (beC (beC (sC c) 6) 5).h], .arr true 1 ((sX c).map Yd2 ++ [[cI ([0, 1, (-1 : Int), 99999, 100000].getD
 (beX (beC (sC c) 6) 5).toNat 0)]])] (.sv (.one (.ref 1)))))) (.f [2] [.box [vL ((beC (sC c) 6).b.map Ydi), vI (↑(beC (sC c) 6).i : Int), vI (beC (sC c) 6).h],
 .arr true 1 ((sX c).map Yd2)] (.sv (.one (.ref 1))))))) (by
 dsimp only [Yd3, Z4d]
 have g1 := Ysb h
 have g2 := @Ydm (sC c) 6 g1
 have g3 := Yvn h
 have g4 := @Y1m0 c
 have g5 := @Y1m4 c
 simp only [anL] at g4
 with_reducible repeat' (first | apply And.intro | exact zR | (intro) | apply Z2l | apply Z3 | apply Zm)
 all_goals ((try simp only [std, inj] at *); with_reducible and_intros)
 all_goals try first | with_reducible (first | apply Z2l | apply Z3 | apply Zm) | (simp only [<- List.map_append]; with_reducible first | apply Z2l | apply Z3 | apply Zm)
 all_goals first
  | exact True.intro | with_reducible rfl | with_reducible assumption | omega | exact ⟨g2, by decide⟩ | decide
  | (rw [(g4 (by omega)).1, List.map_append]; rfl) | (rw [(g4 (by omega)).2]; first | done | rfl)
  | (rw [(g5 (by omega)).1]; first | done | rfl) | (rw [(g5 (by omega)).2]; first | done | rfl)
  | (simp only [List.length_map, List.length_cons, List.length_nil]; omega))
abbrev Z1g (x : YS) (c : Cr) : Ct := ⟨163, [crO c, .arr true 1 (x.scopes.map Yd2), .arr true 5 (x.items.map Ycz)], [.one (.ptr 0 0), .agg [vI x.kind, vI x.number, vS x.text, .ref 1, .ref 2]], [crO (mxH x c).2, .dead, .dead, .arr true 1 ((mxH x c).1.scopes.map Yd2), .arr true 5 ((mxH x c).1.items.map Ycz)], .sv (.agg [vI x.kind, vI x.number, vS x.text, .ref 3, .ref 4])⟩
def Z18 (x : YS) (c : Cr) : Lp Nat := .mk 35 3 (fun x_1 => [(0, .one (.ptr 0 0)), (3, .one (.ptr 3 0)), (4, .one (.ptr 4 0)), (18, li (↑(List.map Ycz
 x.items).length : Int)), (19, hs x_1 0)]) (fun x_1 => [ho x_1 1, .dead, .dead, .box [vI x.kind, vI x.number, vS x.text, .ref 5, .ref 6], .box [vI 0, vI 0, vS
 (ByteArray.mk #[]), .val (.lit (.slice none 0 0)), .val (.lit (.slice none 0 0))], ho x_1 2, ho x_1 3]) (fun k => [.s (li (k : Int)), .o (crO (mxN x.items
 (mx0 x.kind x.scopes c).snd k).snd), .o (.arr true 1 ((mx0 x.kind x.scopes c).fst.map Yd2)), .o (.arr true 5 ((mxS x.items (mx0 x.kind x.scopes c).snd
 k).map Ycz))]) (fun k => k <= x.items.length /\ x.items.length <= 9223372036854775807 /\ okK c /\ wY x <= 1000000) (fun k => x.items.length - k) [.mk True (.exit 0) (fun x => [(3, .one
 (.ptr 3 0)), (4, .one (.ptr 4 0))]) (fun x_1 => [ho x_1 0, .dead, .dead, .box [vI x.kind, vI x.number, vS x.text, .ref 5, .ref 6], .box [vI 0, vI 0, vS
 (ByteArray.mk #[]), .val (.lit (.slice none 0 0)), .val (.lit (.slice none 0 0))], ho x_1 1, ho x_1 2]) [.o (crO (mxH x c).snd), .o (.arr true 1 (List.map
 Yd2 (mxH x c).fst.scopes)), .o (.arr true 5 ((mxH x c).fst.items.map Ycz))]]
theorem Z4q (x : YS) (c : Cr) (h : okK c /\ wY x <= 1000000) (ih : ∀ (z : YS), z ∈ x.items -> ∀ (c : Cr), okK c /\ wY z <= 1000000 -> OK (Z1g z c)) : Lp.Sem
 Tryz.prog (Ydg Tryz.f163 0) (Z18 x c) := Ydr (fun k => let v6 := (mx0 x.kind x.scopes c); let v1 := ((mxS x.items v6.snd k).getD (k : Int).toNat default); let v2 :=
 (mxN x.items v6.snd k); let v3 := ((mxS x.items v6.snd k).map Ycz); let v4 := [cI v1.kind, cI v1.number, cS v1.text, .list ((mxH v1 v2.snd).fst.scopes.map Yd2),
 .list ((mxH v1 v2.snd).fst.items.map Ycz)]; let v5 := [cI v1.kind, cI v1.number, cS v1.text, .any, .any]; .i ((k : Int) < (↑(x.items.map Ycz).length
 : Int)) (.w (.draw [(8, [6]), (9, [0, 11, 12]), (11, [16, 17, 6])]) (.p (0 <= (k : Int) /\ (k : Int).toNat < v3.length) (.w (.pulls (Yda v1) [1, 5]) (.p (v3[(k : Int).toNat]?
 = some (Yda v1)) (.p (∀ (x_1 : List Cell), x_1 ∈ v1.scopes.map Yd2 -> x_1.length = 1) (.p (∀ (x_1 : List Cell), x_1 ∈ v1.items.map Ycz -> x_1.length = 5) (.d
 [.ptr, .agg [none, none, none, some (true, 1), some (true, 5)]] (Z1g v1 v2.snd) (.p (0 <= (k : Int) /\ (k : Int).toNat < (v3.set (k : Int).toNat v5).length) (.w (.take v5
 (v3.set (k : Int).toNat v4) 0) (.p ((v3.set (k : Int).toNat v5)[(k : Int).toNat]? = some v5) (.p ((v3.set (k : Int).toNat v5).set (k : Int).toNat v4 = v3.set (k : Int).toNat
 v4) (.r ((k : Int) + 1) (.g [0, 1, 2, 3, 4, 5, 6] (k + 1) [.s (li ((k : Int) + 1)), .o (.box [vL ((mxH v1 v2.snd).snd.b.map Ydi), vI (↑(mxH v1 v2.snd).snd.i : Int), vI
 (mxH v1 v2.snd).snd.h]), .o (.arr true 1 (v6.fst.map Yd2)), .o (.arr true 5 (v3.set (k : Int).toNat v4))]))))))))))))) (.o 0 [0, 1, 2, 3, 4, 5, 6] [.o (.box [vL
 (v2.snd.b.map Ydi), vI (↑(mxN x.items v6.snd k).snd.i : Int), vI v2.snd.h]), .o (.arr true 1 (v6.fst.map Yd2)), .o (.arr true 5 v3)])) (by
 intro k h; try dsimp only [Yd3, Ydb, Z18] at h ⊢
 have g1 := @Y15c x.items (mx0 x.kind x.scopes c).2 k
 have g2 := @Y140 x.items (mx0 x.kind x.scopes c).2 k
 have g3 := Yop x.items (mx0 x.kind x.scopes c).2 k
 have g4 := Ynn x c
 have g5 := Yfq x
 have g6 := @Yew _ wY x.items (x.items.getD k default)
 have g7 := @Y15v x.items (mx0 x.kind x.scopes c).2 k
 have g8 : okK (mxN x.items (mx0 x.kind x.scopes c).2 k).2 := Y1b1 (Yzr (by have := ‹okK c /\ wY x <= 1000000›; exact this.1)).1 k
 with_reducible repeat' (first | apply And.intro | exact zR | exact ih | (intro) | apply Z3 | apply Z2l | apply ih)
 all_goals ((try simp only [std, inj] at *); with_reducible and_intros)
 all_goals try with_reducible first | apply Z3 | apply Z2l | apply ih
 all_goals try first | exact z | grind [Yd6, Yd7, Yd8, Yd4]
 all_goals first
  | (rw [List.set_set]; done) | exact Y1f9 (by omega)
  | (rw [g3, g1 (by omega)]; unfold crO; with_reducible rfl)
  | (rw [g4, show k = x.items.length by omega]; unfold crO; with_reducible rfl))
theorem Zc4 (x : YS) (c : Cr) (h : okK c /\ wY x <= 1000000) (ih : ∀ z ∈ x.items, ∀ (c : Cr) (h : okK c /\ wY z <= 1000000), Z1g z c)  : Z1g x c := Yde Tryz.call163
 Tryz.func163 (.i (x.kind = 1) (.d [.ptr, .rd] (Z8 c 2) (.i (beX c (2 : Int) = 0) (.d [.ptr] (Z3x (beC c 2)) (.z Ycz x.items (.w (.ghost (.move 2)) (.w (.ghost
 (.move 1)) (.l (Z18 x c) (Z4q x c h ih) [0, 1, 2, 3, 4, 6, 7] [.s (li 0), .o (.box [vL ((sC (beC c 2)).b.map Ydi), vI (↑(sC (beC c 2)).i : Int), vI (sC
 (beC c 2)).h]), .o (.arr true 1 ((sX (beC c 2)).map Yd2)), .o (.arr true 5 (x.items.map Ycz))] 0 (.t (.f [5, 6] [.box [vL ((mxH x c).snd.b.map Ydi), vI
 (↑(mxH x c).snd.i : Int), vI (mxH x c).snd.h], .dead, .dead, .arr true 1 ((mxH x c).fst.scopes.map Yd2), .arr true 5 ((mxH x c).fst.items.map Ycz)] (.sv
 (.agg [vI x.kind, vI x.number, vS x.text, .ref 3, .ref 4]))) .q)))))) (.z Ycz x.items (.w (.ghost (.move 1)) (.w (.ghost (.move 2)) (.l (Z18 x c) (Z4q x
 c h ih) [0, 1, 2, 3, 4, 5, 6] [.s (li 0), .o (.box [vL ((beC c 2).b.map Ydi), vI (↑(beC c 2).i : Int), vI (beC c 2).h]), .o (.arr true 1 (x.scopes.map Yd2)), .o
 (.arr true 5 (x.items.map Ycz))] 0 (.t (.f [5, 6] [.box [vL ((mxH x c).snd.b.map Ydi), vI (↑(mxH x c).snd.i : Int), vI (mxH x c).snd.h], .dead, .dead,
 .arr true 1 ((mxH x c).fst.scopes.map Yd2), .arr true 5 ((mxH x c).fst.items.map Ycz)] (.sv (.agg [vI x.kind, vI x.number, vS x.text, .ref 3, .ref 4])))
 .q))))))) (.y false (.z Ycz x.items (.w (.ghost (.move 1)) (.w (.ghost (.move 2)) (.l (Z18 x c) (Z4q x c h ih) [0, 1, 2, 3, 4, 5, 6] [.s (li 0), .o (.box [vL
 (c.b.map Ydi), vI (c.i : Int), vI c.h]), .o (.arr true 1 (x.scopes.map Yd2)), .o (.arr true 5 (x.items.map Ycz))] 0 (.t (.f [5, 6] [.box [vL (List.map
 Ydi (mxH x c).snd.b), vI (↑(mxH x c).snd.i : Int), vI (mxH x c).snd.h], .dead, .dead, .arr true 1 ((mxH x c).fst.scopes.map Yd2), .arr true 5 (List.map Ycz
 (mxH x c).fst.items)] (.sv (.agg [vI x.kind, vI x.number, vS x.text, .ref 3, .ref 4]))) .q))))))) (by
 dsimp only [Yd3, Z1g, Ydb, Z18]
 have g1 := Yox x.items (mx0 x.kind x.scopes c).2
 have g2 := Y1ck x.items (mx0 x.kind x.scopes c).2
 have g3 := @Y1k2 x.kind x.scopes c
 have g4 := @Y1kz x.kind x.scopes c
 have g5 := @Y1k3 x.kind x.scopes c
 have g6 := Yfq x
 with_reducible repeat' (first | apply And.intro | exact zR | exact ih | (intro) | apply Z3 | apply Z2l)
 all_goals ((try simp only [std, inj] at *); with_reducible and_intros)
 all_goals try with_reducible first | apply Z3 | apply Z2l | apply ih
 all_goals (try exact zG)
 all_goals first
  | exact Ydm h.1 | (unfold crO; with_reducible rfl)
  | (rw [g1, g3 (by assumption) (by assumption)]; unfold crO; with_reducible rfl)
  | (rw [g1, g4 (by assumption) (by assumption)]; unfold crO; with_reducible rfl)
  | (rw [g1, g5 (by assumption)]; unfold crO; with_reducible rfl))
theorem Zb7 (x : YS) : ∀ (c : Cr) (h : okK c /\ wY x <= 1000000), Z1g x c := YS.ind (P := fun x => ∀ (c : Cr) (h : okK c /\ wY x <= 1000000), Z1g x c) (fun x ih c h => Zc4 x c h ih) x
set_option maxHeartbeats 4000000
theorem Ym3 {c c' : Cr} (h : c = c') : Ob.box [vL (c.b.map Ydi), vI (c.i : Nat), vI c.h] = crO c' := by subst h; rfl
abbrev Z6i (c : Cr) : Ct := ⟨83, [crO c], [.one (.ptr 0 0)], crO (dyX c).2 :: Yg5 (dyX c).1, .sv (Yg6 (dyX c).1 1)⟩
theorem Zb8 (c : Cr) (h : okK c)  : Z6i c := Yde Tryz.call83 Tryz.func83 (.d [.ptr, .rd] (Z11 4 c) (.d [.rd] (Zo (Yd9 4 c).fst) (.d [.ptr, .agg [none, none, none,
 some (true, 1), some (true, 5)]] (Z1g (Ye7 (Yd9 4 c).fst) (Yd9 4 c).snd) (.f [9, 10] [.box [vL ((mxH (Ye7 (Yd9 4 c).fst) (Yd9 4 c).snd).snd.b.map Ydi), vI
 (↑(mxH (Ye7 (Yd9 4 c).fst) (Yd9 4 c).snd).snd.i : Int), vI (mxH (Ye7 (Yd9 4 c).fst) (Yd9 4 c).snd).snd.h], .arr true 1 ((mxH (Ye7 (Yd9 4 c).fst) (Yd9 4
 c).snd).fst.scopes.map Yd2), .arr true 5 ((mxH (Ye7 (Yd9 4 c).fst) (Yd9 4 c).snd).fst.items.map Ycz)] (.sv (.agg [vI (Ye7 (Yd9 4 c).fst).kind, vI (Ye7 (Yd9 4
 c).fst).number, vS (Ye7 (Yd9 4 c).fst).text, .ref 1, .ref 2])))))) (by
 dsimp only [Yd3, Z6i]
 have g1 : okK (Yd9 4 c).2 := Yx5 h
 have g2 := (Ymc 4 c h).1
 rw [<- show Yd9 4 c = Yid 4 c from Yjl 4 c] at g2
 have g3 := Yvv (Yd9 4 c).1
 have g4 : dyX c = mxH (Ye7 (Yd9 4 c).1) (Yd9 4 c).2 := rfl
 have g5 := Ynn (Ye7 (Yd9 4 c).1) (Yd9 4 c).2
 have g6 : (40 * 5 ^ 4 : Nat) = 25000 := by decide
 with_reducible repeat' (first | apply And.intro | exact zR | (intro) | apply Z3u | apply Z31 | apply Zb7)
 all_goals ((try simp only [std, inj] at *); with_reducible and_intros)
 all_goals try with_reducible first | apply Z3u | apply Z31 | apply Zb7
 all_goals try first | exact zw | grind [Yd7, Yd8, Yd4]
 all_goals exact Ym3 (by rw [g4]))
abbrev Z52 (c : Cr) : Ct := ⟨31, [crO c], [.one (.ptr 0 0)], crO (ayX c).2 :: Yg5 (ayX c).1, .sv (Yg6 (ayX c).1 1)⟩
theorem Z8z (c : Cr) (h : okK c)  : Z52 c := Yde Tryz.call31 Tryz.func31 (.d [.ptr, .rd] (Z8 c 6) (.i (beX c (6 : Int) = 0) (.d [.ptr] (Z6e (beC c 6)) (.d [.rd]
 (Zo (Ygc (beC c 6)).fst) (.f [4, 5] [.box [vL ((Ygc (beC c 6)).snd.b.map Ydi), vI (↑(Ygc (beC c 6)).snd.i : Int), vI (Ygc (beC c 6)).snd.h], .arr true 1
 ((Ye7 (Ygc (beC c 6)).fst).scopes.map Yd2), .arr true 5 ((Ye7 (Ygc (beC c 6)).fst).items.map Ycz)] (.sv (.agg [vI (Ye7 (Ygc (beC c 6)).fst).kind, vI
 (Ye7 (Ygc (beC c 6)).fst).number, vS (Ye7 (Ygc (beC c 6)).fst).text, .ref 1, .ref 2]))))) (.d [.ptr] (Z6i (beC c 6)) (.d [.ptr, .rd] (Z8 (dyX (beC c 6)).snd 6)
 (.i (beX (dyX (beC c 6)).snd (6 : Int) = 0) (.d [.ptr] (Z4d (beC (dyX (beC c 6)).snd 6)) (.f [7, 4] [.box [vL ((asC (beC (dyX (beC c 6)).snd 6)).b.map Ydi), vI
 (↑(asC (beC (dyX (beC c 6)).snd 6)).i : Int), vI (asC (beC (dyX (beC c 6)).snd 6)).h], .arr true 1 ((asX (beC (dyX (beC c 6)).snd 6)).map Yd2), .arr true 5 (List.map
 Ycz (dyX (beC c 6)).fst.items)] (.sv (.agg [vI (dyX (beC c 6)).fst.kind, vI (dyX (beC c 6)).fst.number, vS (dyX (beC c 6)).fst.text, .ref 1, .ref 2])))) (.f [3, 4]
 [.box [vL ((beC (dyX (beC c 6)).snd 6).b.map Ydi), vI (↑(beC (dyX (beC c 6)).snd 6).i : Int), vI (beC (dyX (beC c 6)).snd 6).h], .arr true 1 ((dyX (beC c
 6)).fst.scopes.map Yd2), .arr true 5 ((dyX (beC c 6)).fst.items.map Ycz)] (.sv (.agg [vI (dyX (beC c 6)).fst.kind, vI (dyX (beC c 6)).fst.number, vS (dyX (beC c
 6)).fst.text, .ref 1, .ref 2])))))))) (by
 dsimp only [Yd3, Z52]
 have g1 := @Ydm c 6 h
 have g2 := Y14n g1
 have g3 := Y1a0 g1
 have g4 := @Ydm (dyX (beC c 6)).2 6 g3.1
 have f0 := @Y1ir c
 have f1 := @Y1hj c
 have f2 := @Y1jq c
 with_reducible repeat' (first | apply And.intro | exact zR | (intro) | apply Z3 | apply Zas | apply Z31 | apply Zb8 | apply Z60)
 all_goals ((try simp only [std, inj] at *); with_reducible and_intros)
 all_goals try with_reducible first | apply Z3 | apply Zas | apply Z31 | apply Zb8 | apply Z60
 all_goals first
  | exact True.intro | with_reducible rfl | with_reducible assumption | omega | exact g2.2 | exact g3.1 | decide
  | (rw [f0 (by omega)]; first | done | rfl)
  | (rw [f1 (by omega) (by omega)]; first | done | rfl)
  | (rw [f2 (by omega) (by omega)]; first | done | rfl)
  | (have := g2.1; omega))
abbrev Z61 (c : Cr) : Ct := ⟨76, [crO c], [.one (.ptr 0 0)], [crO (bdX c).2, .arr true 1 ((bdX c).1.scopes.map Yd2)], .sv (.agg [vS (bdX c).1.text, .ref 1, vI (bdX c).1.kind, vI (bdX c).1.number])⟩
theorem Z32 (c : Cr) (h : okK c)  : Z61 c := Yde Tryz.call76 Tryz.func76 (.d [.ptr, .own true 1] (Z5 c [ByteArray.mk #[(120 : UInt8)], ByteArray.mk #[(121 : UInt8)],
 ByteArray.mk #[(116 : UInt8), (109 : UInt8), (112 : UInt8)], ByteArray.mk #[(105 : UInt8), (102 : UInt8)]]) (.d [.ptr] (Z3x (beC c 4)) (.d [.ptr, .rd] (Z2 (sC (beC c
 4)) 4) (.r (1 + beX (sC (beC c 4)) 4) (.d [.ptr, .rd] (Z2 (beC (sC (beC c 4)) 4) 9) (.d [.ptr, .rd] (Z2 (beC (beC (sC (beC c 4)) 4) 9) 14) (.i (beX (beC (beC (sC
 (beC c 4)) 4) 9) (14 : Int) = 0) (.d [.ptr, .rd] (Z2 (beC (beC (beC (sC (beC c 4)) 4) 9) 14) 7) (.r (beX (beC (beC (beC (sC (beC c 4)) 4) 9) 14) 7 - 1) (.f [4] [.box [vL
 ((beC (beC (beC (beC (sC (beC c 4)) 4) 9) 14) 7).b.map Ydi), vI (↑(beC (beC (beC (beC (sC (beC c 4)) 4) 9) 14) 7).i : Int), vI (beC (beC (beC (beC (sC (beC c 4)) 4) 9) 14)
 7).h], .arr true 1 ((sX (beC c 4)).map Yd2)] (.sv (.agg [vS ([ByteArray.mk #[(120 : UInt8)], ByteArray.mk #[(121 : UInt8)], ByteArray.mk #[(116 : UInt8), (109 :
 UInt8), (112 : UInt8)], ByteArray.mk #[(105 : UInt8), (102 : UInt8)]].getD (beX c 4).toNat default), .ref 1, vI (beX (beC (beC (beC (sC (beC c 4)) 4) 9) 14) 7 - 1), vI (beX (beC
 (sC (beC c 4)) 4) 9)]))))) (.i (beX (beC (beC (sC (beC c 4)) 4) 9) (14 : Int) = 1) (.d [.ptr, .own true 1] (Zl (beC (beC (beC (sC (beC c 4)) 4) 9) 14) [(-1 : Int), 11, 12,
 13, 14, 99999, 100000]) (.f [4] [.box [vL ((beC (beC (beC (beC (sC (beC c 4)) 4) 9) 14) 7).b.map Ydi), vI (↑(beC (beC (beC (beC (sC (beC c 4)) 4) 9) 14) 7).i : Int), vI
 (beC (beC (beC (beC (sC (beC c 4)) 4) 9) 14) 7).h], .arr true 1 ((sX (beC c 4)).map Yd2)] (.sv (.agg [vS ([ByteArray.mk #[(120 : UInt8)], ByteArray.mk #[(121 :
 UInt8)], ByteArray.mk #[(116 : UInt8), (109 : UInt8), (112 : UInt8)], ByteArray.mk #[(105 : UInt8), (102 : UInt8)]].getD (beX c 4).toNat default), .ref 1, vI (1 + beX (sC (beC c
 4)) 4), vI ([(-1 : Int), 11, 12, 13, 14, 99999, 100000].getD (beX (beC (beC (beC (sC (beC c 4)) 4) 9) 14) 7).toNat 0)])))) (.i (beX (beC (beC (sC (beC c 4)) 4) 9) (14 : Int) = 2)
 (.d [.ptr] (Z4d (beC (beC (beC (sC (beC c 4)) 4) 9) 14)) (.f [7] [.box [vL ((asC (beC (beC (beC (sC (beC c 4)) 4) 9) 14)).b.map Ydi), vI (↑(asC (beC (beC (beC (sC
 (beC c 4)) 4) 9) 14)).i : Int), vI (asC (beC (beC (beC (sC (beC c 4)) 4) 9) 14)).h], .arr true 1 ((asX (beC (beC (beC (sC (beC c 4)) 4) 9) 14)).map Yd2)] (.sv (.agg
 [vS ([ByteArray.mk #[(120 : UInt8)], ByteArray.mk #[(121 : UInt8)], ByteArray.mk #[(116 : UInt8), (109 : UInt8), (112 : UInt8)], ByteArray.mk #[(105 : UInt8), (102 : UInt8)]].getD
 (beX c 4).toNat default), .ref 1, vI (1 + beX (sC (beC c 4)) 4), vI (beX (beC (sC (beC c 4)) 4) 9)])))) (.i (beX (beC (beC (sC (beC c 4)) 4) 9) (14 : Int) = 3) (.d [.ptr, .own
 true 1] (Z5 (beC (beC (beC (sC (beC c 4)) 4) 9) 14) [ByteArray.mk #[], ByteArray.mk #[(49 : UInt8)]]) (.f [4] [.box [vL ((beC (beC (beC (beC (sC (beC c 4))
 4) 9) 14) 2).b.map Ydi), vI (↑(beC (beC (beC (beC (sC (beC c 4)) 4) 9) 14) 2).i : Int), vI (beC (beC (beC (beC (sC (beC c 4)) 4) 9) 14) 2).h], .arr true 1 ((sX (beC c
 4)).map Yd2)] (.sv (.agg [vS ([ByteArray.mk #[], ByteArray.mk #[(49 : UInt8)]].getD (beX (beC (beC (beC (sC (beC c 4)) 4) 9) 14) 2).toNat default), .ref 1, vI (1 + beX (sC (beC c
 4)) 4), vI (beX (beC (sC (beC c 4)) 4) 9)])))) (.f [4] [.box [vL ((beC (beC (beC (sC (beC c 4)) 4) 9) 14).b.map Ydi), vI (↑(beC (beC (beC (sC (beC c 4)) 4) 9) 14).i :
 Int), vI (beC (beC (beC (sC (beC c 4)) 4) 9) 14).h], .arr true 1 ((sX (beC c 4)).map Yd2)] (.sv (.agg [vS ([ByteArray.mk #[(120 : UInt8)], ByteArray.mk #[(121 :
 UInt8)], ByteArray.mk #[(116 : UInt8), (109 : UInt8), (112 : UInt8)], ByteArray.mk #[(105 : UInt8), (102 : UInt8)]].getD (beX c 4).toNat default), .ref 1, vI (1 + beX (sC (beC c
 4)) 4), vI (beX (beC (sC (beC c 4)) 4) 9)]))))))))))))) (by
 dsimp only [Yd3, Z61]
 have o1 := @Ydm c 4 h
 have o2 : okK (b2 c) := Ysb o1
 have o3 := @Ydm (b2 c) 4 o2
 have o4 : okK (b4 c) := Ydm o3
 have o5 : okK (b5 c) := Ydm o4
 have l1 := Yer (b2 c) (n := 4) (by decide)
 have l2 := Yer (b5 c) (n := 7) (by decide)
 have l3 := Yer (b4 c) (n := 14) (by decide)
 have f0 := @Y1in c
 have f1 := @Y1jh c
 have f2 := @Y1io c
 have f3 := @Y1jt c
 have f4 := @Y1jd c
 have o2' := o2
 simp only [b5, b4] at o4 o5 l2 l3 f0 f1 f2 f3 f4
 simp only [b2] at o2 o3 o4 o5 l1 l2 l3 f0 f1 f2 f3 f4
 simp only [bd0, b2, nmL, nuL, teL] at f0 f1 f2 f3 f4
 with_reducible repeat' (first | apply And.intro | exact zR | (intro) | apply Za | apply Z2l | apply Z0 | apply Zm | apply Z60)
 all_goals ((try simp only [std, inj] at *); with_reducible and_intros)
 all_goals try with_reducible first | apply Za | apply Z2l | apply Z0 | apply Zm | apply Z60
 all_goals first
  | exact True.intro | with_reducible rfl | with_reducible assumption | omega | exact ⟨h, by decide⟩ | exact ⟨o5, by decide⟩ | decide
  | (rw [f0 (by omega)]; first | done | rfl)
  | (rw [f1 (by omega)]; first | done | rfl)
  | (rw [f2 (by omega)]; first | done | rfl)
  | (rw [f3 (by omega)]; first | done | rfl)
  | (rw [f4 (by omega)]; first | done | rfl))
theorem Yz7 (L : List YB) (x : YB) : L.map Yd1 ++ [[cS x.text, .list (x.scopes.map Yd2), cI x.kind, cI x.number]] = (L ++ [x]).map Yd1 := by
 rw [List.map_append]; rfl
abbrev Z79 (c : Cr) : Ct := ⟨79, [crO c], [.one (.ptr 0 0)], [crO (t3X c).2, .arr true 4 ((t3X c).1.map Yd1)], .sv (.one (.ref 1))⟩
def Z53 (c : Cr) : Lp (Int) := .mk 32 1 (fun x => [(0, .one (.ptr 0 0)), (3, .one (.ref 1)), (4, hs x 0)]) (fun x => [ho x 1, ho x 2]) (fun k => [.s (li k), .o (crO
 (tbH (beX c 9 - k).toNat (beC c 9)).snd), .o (.arr true 4 ((tbH (beX c 9 - k).toNat (beC c 9)).fst.map Yd1))]) (fun k => 0 <= k /\ k <= beX c 9 /\ okK c) (fun k =>
 k.toNat) [.mk True (.exit 0) (fun x => [(3, .one (.ref 1))]) (fun x => [ho x 0, ho x 1]) [.o (crO (t3X c).snd), .o (.arr true 4 ((t3X c).fst.map Yd1))]]
theorem Zc5 (c : Cr) (h : okK c) : Lp.Sem Tryz.prog (Ydg Tryz.f79 0) (Z53 c) := Ydr (fun k => .i (0 < k) (.d [.ptr] (Z61 (tbH (beX c 9 - k).toNat (beC c 9)).snd)
 (.c [.rd] (Z3w (bdX (tbH (beX c 9 - k).toNat (beC c 9)).snd).fst) (.b (Yig (bdX (tbH (beX c 9 - k).toNat (beC c 9)).snd).fst) (.c [.rd, .rd] (Z51 (tbH (beX c 9 -
 k).toNat (beC c 9)).fst (bdX (tbH (beX c 9 - k).toNat (beC c 9)).snd).fst) (.b (!Yh4 (tbH (beX c 9 - k).toNat (beC c 9)).fst (bdX (tbH (beX c 9 - k).toNat (beC c
 9)).snd).fst.text (bdX (tbH (beX c 9 - k).toNat (beC c 9)).snd).fst.scopes) (.y true (.p ((((tbH (beX c 9 - k).toNat (beC c 9)).fst.map Yd1).length + 1) * 56 <=
 140737488355328) (.r (k - 1) (.g [0, 6] (k - 1) [.s (li (k - 1)), .o (.box [vL ((bdX (tbH (beX c 9 - k).toNat (beC c 9)).snd).snd.b.map Ydi), vI (↑(bdX (tbH (beX c 9 -
 k).toNat (beC c 9)).snd).snd.i : Int), vI (bdX (tbH (beX c 9 - k).toNat (beC c 9)).snd).snd.h]), .o (.arr true 4 ((tbH (beX c 9 - k).toNat (beC c 9)).fst.map Yd1 ++
 [Ydq (bdX (tbH (beX c 9 - k).toNat (beC c 9)).snd).fst]))])))) (.d [.ptr, .rd] (Z8 (bdX (tbH (beX c 9 - k).toNat (beC c 9)).snd).snd 20) (.i (beX (bdX (tbH (beX c 9 -
 k).toNat (beC c 9)).snd).snd (20 : Int) = 0) (.p ((((tbH (beX c 9 - k).toNat (beC c 9)).fst.map Yd1).length + 1) * 56 <= 140737488355328) (.r (k - 1) (.g [0, 6] (k - 1)
 [.s (li (k - 1)), .o (.box [vL ((beC (bdX (tbH (beX c 9 - k).toNat (beC c 9)).snd).snd 20).b.map Ydi), vI (↑(beC (bdX (tbH (beX c 9 - k).toNat (beC c 9)).snd).snd 20).i :
 Int), vI (beC (bdX (tbH (beX c 9 - k).toNat (beC c 9)).snd).snd 20).h]), .o (.arr true 4 ((tbH (beX c 9 - k).toNat (beC c 9)).fst.map Yd1 ++ [Ydq (bdX (tbH (beX c
 9 - k).toNat (beC c 9)).snd).fst]))]))) (.r (k - 1) (.g [0, 1] (k - 1) [.s (li (k - 1)), .o (.box [vL ((beC (bdX (tbH (beX c 9 - k).toNat (beC c 9)).snd).snd
 20).b.map Ydi), vI (↑(beC (bdX (tbH (beX c 9 - k).toNat (beC c 9)).snd).snd 20).i : Int), vI (beC (bdX (tbH (beX c 9 - k).toNat (beC c 9)).snd).snd 20).h]), .o (.arr true 4 (List.map
 Yd1 (tbH (beX c 9 - k).toNat (beC c 9)).fst))])))))) (.y false (.d [.ptr, .rd] (Z8 (bdX (tbH (beX c 9 - k).toNat (beC c 9)).snd).snd 20) (.i (beX (bdX (tbH (beX c 9 -
 k).toNat (beC c 9)).snd).snd (20 : Int) = 0) (.p ((((tbH (beX c 9 - k).toNat (beC c 9)).fst.map Yd1).length + 1) * 56 <= 140737488355328) (.r (k - 1) (.g [0, 6] (k - 1)
 [.s (li (k - 1)), .o (.box [vL ((beC (bdX (tbH (beX c 9 - k).toNat (beC c 9)).snd).snd 20).b.map Ydi), vI (↑(beC (bdX (tbH (beX c 9 - k).toNat (beC c 9)).snd).snd 20).i :
 Int), vI (beC (bdX (tbH (beX c 9 - k).toNat (beC c 9)).snd).snd 20).h]), .o (.arr true 4 ((tbH (beX c 9 - k).toNat (beC c 9)).fst.map Yd1 ++ [Ydq (bdX (tbH (beX c
 9 - k).toNat (beC c 9)).snd).fst]))]))) (.r (k - 1) (.g [0, 1] (k - 1) [.s (li (k - 1)), .o (.box [vL ((beC (bdX (tbH (beX c 9 - k).toNat (beC c 9)).snd).snd
 20).b.map Ydi), vI (↑(beC (bdX (tbH (beX c 9 - k).toNat (beC c 9)).snd).snd 20).i : Int), vI (beC (bdX (tbH (beX c 9 - k).toNat (beC c 9)).snd).snd 20).h]), .o (.arr true 4 (List.map
 Yd1 (tbH (beX c 9 - k).toNat (beC c 9)).fst))])))))))) (.o 0 [0, 1] [.o (.box [vL ((tbH (beX c 9 - k).toNat (beC c 9)).snd.b.map Ydi), vI (↑(tbH (beX c 9 - k).toNat
 (beC c 9)).snd.i : Int), vI (tbH (beX c 9 - k).toNat (beC c 9)).snd.h]), .o (.arr true 4 ((tbH (beX c 9 - k).toNat (beC c 9)).fst.map Yd1))])) (by
 intro k h; try dsimp only [Yd3, Ydb, Z53] at h ⊢
 have hc := h.2.2
 have l9 := Yer c (n := 9) (by decide)
 have ok := Y18a (n := (beX c 9 - k).toNat) (Ydm (n := 9) hc)
 have okb := Yum ok.1
 have g4 : 0 < k -> (beX c 9 - (k - 1)).toNat = (beX c 9 - k).toNat + 1 := fun _ => by omega
 have g5 : ¬ 0 < k -> 0 <= k -> tbH (beX c 9 - k).toNat (beC c 9) = t3X c := fun _ _ => by rw [Y1a9, show (beX c 9 - k).toNat = (beX c 9).toNat by omega]
 have ga := @Y1en (beX c 9 - k).toNat (beC c 9)
 have gb := @Y1ex (beX c 9 - k).toNat (beC c 9)
 have gc := @Y1ei (beX c 9 - k).toNat (beC c 9)
 have gs := Yz7 (tbH (beX c 9 - k).toNat (beC c 9)).1 (bdX (tbH (beX c 9 - k).toNat (beC c 9)).2).1
 with_reducible repeat' (first | apply And.intro | exact zR | (intro) | apply Z0 | apply Z32 | apply Z3)
 all_goals ((try simp only [std, inj] at *); with_reducible and_intros)
 all_goals try first | with_reducible (first | apply Z0 | apply Z32 | apply Z3) | (simp only [<- List.map_append]; with_reducible first | apply Z0 | apply Z32 | apply Z3)
 all_goals try first | exact zw | grind [Ykw, Yd7, Yd8, Yd4]
 all_goals (refine Ym3 ?_; grind [Ykw]))
theorem Z6v (c : Cr) (h : okK c)  : Z79 c := Yde Tryz.call79 Tryz.func79 (.w (.bool false) (.d [.ptr, .rd] (Z2 c 9) (.l (Z53 c) (Zc5 c h) [0, 1] [.s (li (beX
 c 9)), .o (.box [vL ((beC c 9).b.map Ydi), vI (↑(beC c 9).i : Int), vI (beC c 9).h]), .o (.arr true 4 [])] (beX c 9) (.t (.f [1] [.box [vL ((t3X
 c).snd.b.map Ydi), vI (↑(t3X c).snd.i : Int), vI (t3X c).snd.h], .arr true 4 ((t3X c).fst.map Yd1)] (.sv (.one (.ref 1)))) .q)))) (by
 dsimp only [Yd3, Z79, Ydb, Z53]
 have l9 := Yer c (n := 9) (by decide)
 have e0 : (beX c 9 - beX c 9).toNat = 0 := by omega
 have m0 := Y10t (beC c 9)
 with_reducible repeat' (first | apply And.intro | exact zR | (intro) | apply Z0 | apply Z32 | apply Z3)
 all_goals ((try simp only [std, inj] at *); with_reducible and_intros)
 all_goals try with_reducible first | apply Z0 | apply Z32 | apply Z3
 all_goals try first | exact zw | grind [Yd7, Yd8, Yd4]
 all_goals first | exact Ym3 rfl | exact Ym3 (by rw [e0, m0]))
abbrev Z7a (c : Cr) : Ct := ⟨26, [crO c], [.one (.ptr 0 0)], [crO (taX c).2, .arr true 4 ((taX c).1.map Yd1)], .sv (.one (.ref 1))⟩
def Z54 (c : Cr) : Lp (Int) := .mk 32 1 (fun x => [(0, .one (.ptr 0 0)), (3, .one (.ref 1)), (4, hs x 0)]) (fun x => [ho x 1, ho x 2]) (fun k => [.s (li k), .o (crO
 (tgH (beX c 3 - k).toNat (beC c 3)).snd), .o (.arr true 4 ((tgH (beX c 3 - k).toNat (beC c 3)).fst.map Yd1))]) (fun k => 0 <= k /\ k <= beX c 3 /\ okK c) (fun k =>
 k.toNat) [.mk True (.exit 0) (fun x => [(0, .one (.ptr 0 0)), (3, .one (.ref 1))]) (fun x => [ho x 0, ho x 1]) [.o (crO (tg c).snd), .o (.arr true 4 (List.map Yd1
 (tg c).fst))]]
theorem Zc6 (c : Cr) (h : okK c) : Lp.Sem Tryz.prog (Ydg Tryz.f26 0) (Z54 c) := Ydr (fun k => .i (0 < k) (.d [.ptr] (Z61 (tgH (beX c 3 - k).toNat (beC c 3)).snd)
 (.c [.rd] (Z3w (bdX (tgH (beX c 3 - k).toNat (beC c 3)).snd).fst) (.b (Yig (bdX (tgH (beX c 3 - k).toNat (beC c 3)).snd).fst) (.c [.rd, .rd] (Z51 (tgH (beX c 3 -
 k).toNat (beC c 3)).fst (bdX (tgH (beX c 3 - k).toNat (beC c 3)).snd).fst) (.b (!Yh4 (tgH (beX c 3 - k).toNat (beC c 3)).fst (bdX (tgH (beX c 3 - k).toNat (beC c
 3)).snd).fst.text (bdX (tgH (beX c 3 - k).toNat (beC c 3)).snd).fst.scopes) (.p ((((tgH (beX c 3 - k).toNat (beC c 3)).fst.map Yd1).length + 1) * 56 <= 140737488355328)
 (.r (k - 1) (.g [0, 6] (k - 1) [.s (li (k - 1)), .o (.box [vL ((bdX (tgH (beX c 3 - k).toNat (beC c 3)).snd).snd.b.map Ydi), vI (↑(bdX (tgH (beX c 3 - k).toNat (beC c
 3)).snd).snd.i : Int), vI (bdX (tgH (beX c 3 - k).toNat (beC c 3)).snd).snd.h]), .o (.arr true 4 ((tgH (beX c 3 - k).toNat (beC c 3)).fst.map Yd1 ++ [Ydq (bdX
 (tgH (beX c 3 - k).toNat (beC c 3)).snd).fst]))]))) (.r (k - 1) (.g [0, 1] (k - 1) [.s (li (k - 1)), .o (.box [vL ((bdX (tgH (beX c 3 - k).toNat (beC c
 3)).snd).snd.b.map Ydi), vI (↑(bdX (tgH (beX c 3 - k).toNat (beC c 3)).snd).snd.i : Int), vI (bdX (tgH (beX c 3 - k).toNat (beC c 3)).snd).snd.h]), .o (.arr true 4 (List.map Yd1
 (tgH (beX c 3 - k).toNat (beC c 3)).fst))])))) (.y false (.r (k - 1) (.g [0, 1] (k - 1) [.s (li (k - 1)), .o (.box [vL ((bdX (tgH (beX c 3 - k).toNat (beC c
 3)).snd).snd.b.map Ydi), vI (↑(bdX (tgH (beX c 3 - k).toNat (beC c 3)).snd).snd.i : Int), vI (bdX (tgH (beX c 3 - k).toNat (beC c 3)).snd).snd.h]), .o (.arr true 4 (List.map Yd1
 (tgH (beX c 3 - k).toNat (beC c 3)).fst))])))))) (.o 0 [0, 1] [.o (.box [vL ((tgH (beX c 3 - k).toNat (beC c 3)).snd.b.map Ydi), vI (↑(tgH (beX c 3 - k).toNat (beC c
 3)).snd.i : Int), vI (tgH (beX c 3 - k).toNat (beC c 3)).snd.h]), .o (.arr true 4 ((tgH (beX c 3 - k).toNat (beC c 3)).fst.map Yd1))])) (by
 intro k h; try dsimp only [Yd3, Ydb, Z54] at h ⊢
 have hc := h.2.2
 have l9 := Yer c (n := 3) (by decide)
 have ok := Y19p (n := (beX c 3 - k).toNat) (Ydm (n := 3) hc)
 have okb := Yum ok.1
 have g4 : 0 < k -> (beX c 3 - (k - 1)).toNat = (beX c 3 - k).toNat + 1 := fun _ => by omega
 have g5 : ¬ 0 < k -> 0 <= k -> tgH (beX c 3 - k).toNat (beC c 3) = tg c := fun _ _ => by unfold tg; rw [show (beX c 3 - k).toNat = (beX c 3).toNat by omega]
 have ga := @Y1ej (beX c 3 - k).toNat (beC c 3)
 have gb := @Y1el (beX c 3 - k).toNat (beC c 3)
 have gs := Yz7 (tgH (beX c 3 - k).toNat (beC c 3)).1 (bdX (tgH (beX c 3 - k).toNat (beC c 3)).2).1
 with_reducible repeat' (first | apply And.intro | exact zR | (intro) | apply Z0 | apply Z32 | apply Z3 | apply Z6v)
 all_goals ((try simp only [std, inj] at *); with_reducible and_intros)
 all_goals try first | with_reducible (first | apply Z0 | apply Z32 | apply Z3 | apply Z6v) | (simp only [<- List.map_append]; with_reducible first | apply Z0 | apply Z32 | apply Z3 | apply Z6v)
 all_goals try first | exact zw | grind [Ykw, Yd7, Yd8, Yd4]
 all_goals (refine Ym3 ?_; grind [Ykw]))
theorem Zab (c : Cr) (h : okK c)  : Z7a c := Yde Tryz.call26 Tryz.func26 (.c [] Z6r (.d [.ptr, .rd] (Z2 c 3) (.l (Z54 c) (Zc6 c h) [0, 1] [.s (li
 (beX c 3)), .o (.box [vL ((beC c 3).b.map Ydi), vI (↑(beC c 3).i : Int), vI (beC c 3).h]), .o (.arr true 4 (Yf7.map Yd1))] (beX c 3) (.t (.d [.ptr,
 .rd] (Z8 (tg c).snd 14) (.i (beX (tg c).snd (14 : Int) = 0) (.d [.ptr] (Z79 (beC (tg c).snd 14)) (.f [3] [.box [vL ((t3X (beC (tg c).snd 14)).snd.b.map Ydi),
 vI (↑(t3X (beC (tg c).snd 14)).snd.i : Int), vI (t3X (beC (tg c).snd 14)).snd.h], .arr true 4 ((t3X (beC (tg c).snd 14)).fst.map Yd1)] (.sv (.one (.ref 1)))))
 (.f [1] [.box [vL ((beC (tg c).snd 14).b.map Ydi), vI (↑(beC (tg c).snd 14).i : Int), vI (beC (tg c).snd 14).h], .arr true 4 ((tg c).fst.map Yd1)] (.sv
 (.one (.ref 1)))))) .q)))) (by
 dsimp only [Yd3, Z7a, Ydb, Z54]
 have l9 := Yer c (n := 3) (by decide)
 have e0 : (beX c 3 - beX c 3).toNat = 0 := by omega
 have m0 := Y12l (beC c 3)
 have o1 := (Y1ev h).1
 have o2 := @Ydm (tg c).2 14 o1
 have f0 := @Y1ic c
 have f1 := @Y1k0 c
 with_reducible repeat' (first | apply And.intro | exact zR | (intro) | apply Z0 | apply Z32 | apply Z3 | apply Z6v)
 all_goals ((try simp only [std, inj] at *); with_reducible and_intros)
 all_goals try with_reducible first | apply Z0 | apply Z32 | apply Z3 | apply Z6v
 all_goals try first | exact zw | grind [Yd7, Yd8, Yd4]
 all_goals first | exact Ym3 rfl | exact Ym3 (by rw [e0, m0]) | exact Ym3 (by rw [f0 (by omega)]) | exact Ym3 (by rw [f1 (by omega)]))
set_option maxHeartbeats 4000000
abbrev Z1h (n : Int) : Ct := ⟨250, [], [li n], [], .sv (ls (mkS (Lib.itoa n)))⟩
def Z4e (n : Int) : Lp (Int × List UInt8) := .mk 31 0 (fun x => [(0, li n), (3, hs x 1), (4, hs x 0)]) (fun x => []) (fun k => [.s (li k.fst), .s (ls (mkS k.snd))]) (fun k =>
 n ≠ 0 /\ dgs k.fst.natAbs ++ k.snd = Lib.decDigits n.natAbs /\ (-9223372036854775808 : Int) <= k.fst /\ k.fst <= 9223372036854775807) (fun k => k.fst.natAbs) [.mk True (.exit 0) (fun x
 => [(0, li n), (3, hs x 0)]) (fun x => []) [.s (ls (mkS (Lib.decDigits n.natAbs)))]]
theorem Zb9 (n : Int) (h : (-9223372036854775808 : Int) <= n /\ n <= 9223372036854775807) : Lp.Sem Tryz.prog (Ydg Tryz.f250 0) (Z4e n) := Ydr (fun k => .i (k.fst ≠ 0)
 (.p ((10 : Int) ≠ 0) (.i (k.fst.tmod (10 : Int) < 0) (.r (0 - k.fst.tmod 10) (.r (48 + (0 - k.fst.tmod 10)) (.p (rng IntKind.u8 (48 + (0 - k.fst.tmod 10))) (.w (.bytes
 [UInt8.ofNat (48 + (0 - k.fst.tmod 10)).toNat]) (.p ([[Cell.lit (Value.int IntKind.u8 (48 + (0 - k.fst.tmod 10)))]] = [[Cell.lit (Value.int IntKind.u8 (↑(UInt8.ofNat (48 + (0 -
 k.fst.tmod 10)).toNat).toNat : Int))]]) (.p (1 + k.snd.length <= 9223372036854775807) (.p ((10 : Int) ≠ 0) (.r (k.fst.tdiv 10) (.g [] (k.fst.tdiv 10, [UInt8.ofNat (48 + (0 -
 k.fst.tmod 10)).toNat] ++ k.snd) [.s (li (k.fst.tdiv 10)), .s (ls (ByteArray.mk ([UInt8.ofNat (48 + (0 - k.fst.tmod 10)).toNat] ++ k.snd).toArray))]))))))))) (.r (48 + k.fst.tmod
 10) (.p (rng IntKind.u8 (48 + k.fst.tmod 10)) (.w (.bytes [UInt8.ofNat (48 + k.fst.tmod 10).toNat]) (.p ([[Cell.lit (Value.int IntKind.u8 (48 + k.fst.tmod 10))]] = [[Cell.lit
 (Value.int IntKind.u8 (↑(UInt8.ofNat (48 + k.fst.tmod 10).toNat).toNat : Int))]]) (.p (1 + k.snd.length <= 9223372036854775807) (.p ((10 : Int) ≠ 0) (.r (k.fst.tdiv 10) (.g []
 (k.fst.tdiv 10, [UInt8.ofNat (48 + k.fst.tmod 10).toNat] ++ k.snd) [.s (li (k.fst.tdiv 10)), .s (ls (ByteArray.mk ([UInt8.ofNat (48 + k.fst.tmod 10).toNat] ++
 k.snd).toArray))])))))))))) (.o 0 [] [.s (ls (mkS k.snd))])) (by
 intro k h; try dsimp only [Yd3, Ydb, Z4e] at h ⊢
 obtain ⟨x, o⟩ := k
 simp only at *
 have g1 := @Y1dd x.natAbs
 have g2 : (x.tdiv 10).natAbs = x.natAbs / 10 := Int.natAbs_tdiv _ _
 have g3 : (x.tmod 10).natAbs = x.natAbs % 10 := Int.natAbs_tmod _ _
 have g4 := congrArg List.length h.2.1
 have g5 := Y18k (n := n) (by assumption)
 with_reducible repeat' (first | apply And.intro | exact zR | (intro))
 all_goals ((try simp only [std, inj] at *); with_reducible and_intros)
 all_goals try first | exact zw | grind [Y1bz, Yd7, Yd8, Yd4]
 all_goals first | (rw [Y194]; omega) | (rw [Y1h5 (by omega)]))
theorem Z6w (n : Int) (h : -9223372036854775808 <= n /\ n <= 9223372036854775807)  : Z1h n := Yde Tryz.call250 Tryz.func250 (.i (n = 0) (.s (ls (ByteArray.mk #[(48 : UInt8)])))
 (.l (Z4e n) (Zb9 n h) [] [.s (li n), .s (ls (ByteArray.mk #[]))] (n, []) (.t (.i (n < 0) (.p (1 + (Lib.decDigits n.natAbs).length <= 9223372036854775807) (.s (ls
 (ByteArray.mk ([(45 : UInt8)] ++ Lib.decDigits n.natAbs).toArray)))) (.s (ls (mkS (Lib.decDigits n.natAbs))))) .q))) (by
 dsimp only [Yd3, Z1h, Ydb, Z4e]
 have g1 := @Y10w n
 have g2 := @Y1cb n
 have g3 := Y19v
 have g4 := Y18k h
 with_reducible repeat' (first | apply And.intro | exact zR | (intro))
 all_goals ((try simp only [std, inj] at *); with_reducible and_intros)
 all_goals try first | exact zw | grind [Y1ix, Yd7, Yd8, Yd4])
abbrev Z7x (s : ByteArray) : Ct := ⟨236, [], [ls s], [], .tup [li (Ykt s), lb (Yja s)]⟩
def Z1r (s : ByteArray) : Lp (Nat × Int) := .mk 55 0 (fun x => [(0, ls s), (4, hs x 0), (5, hs x 2), (6, hs x 1)]) (fun x => []) (fun k => [.s (li (↑(atN s) : Int)), .s (li
 (k.fst : Int)), .s (li k.snd)]) (fun k => atN s <= k.fst /\ k.fst <= s.size /\ Yns s k.fst = some k.snd.toNat /\ 0 <= k.snd /\ s.size <= atN s + 9 /\ atN s < s.size) (fun k => s.size -
 k.fst) [.mk (Yq8 s = true) (.exit 0) (fun x => [(0, ls s), (4, hs x 0), (5, hs x 1)]) (fun x => []) [.s (li (↑(atN s) : Int)), .s (li (↑(magN s) : Int))], .mk (Yq8 s = false /\
 s.size <= atN s + 9 /\ atN s < s.size) .ret (fun x => [(2, hs x 0), (3, hs x 1)]) (fun x => []) [.s (li 0), .s (lb false)]]
theorem Z55 (s : ByteArray) : Lp.Sem Tryz.prog (Ydg Tryz.f236 0) (Z1r s) := Ydr (fun k => .h (s.data.toList.length <= 9223372036854775807) (.i ((k.fst : Int) <
 (s.data.toList.length : Int)) (.p (0 <= (k.fst : Int) /\ (k.fst : Int).toNat < s.data.toList.length) (.c [.rd] (Z3t (↑(s.data.toList.getD (k.fst : Int).toNat (0 :
 UInt8)).toNat : Int)) (.b (!Ygz (↑(s.data.toList.getD (k.fst : Int).toNat (0 : UInt8)).toNat : Int)) (.o 1 [] [.s (li 0), .s (lb false)]) (.r (10 * k.snd) (.p (0 <= (↑k.fst :
 Int) /\ (k.fst : Int).toNat < s.data.toList.length) (.p (rng IntKind.u8 ((↑(s.data.toList.getD (k.fst : Int).toNat (0 : UInt8)).toNat : Int) - 48)) (.r ((↑(s.data.toList.getD
 (k.fst : Int).toNat (0 : UInt8)).toNat : Int) - 48) (.r (10 * k.snd + ((↑(s.data.toList.getD (k.fst : Int).toNat (0 : UInt8)).toNat : Int) - 48)) (.r ((k.fst : Int) + 1) (.g []
 (k.fst + 1, 10 * k.snd + ((↑(s.data.toList.getD (k.fst : Int).toNat (0 : UInt8)).toNat : Int) - 48)) [.s (li (↑(atN s) : Int)), .s (li ((k.fst : Int) + 1)), .s (li (10 * k.snd +
 ((↑(s.data.toList.getD (k.fst : Int).toNat (0 : UInt8)).toNat : Int) - 48)))])))))))))) (.o 0 [] [.s (li (↑(atN s) : Int)), .s (li k.snd)]))) (by
 intro k h; try dsimp only [Yd3, Ydb, Z1r] at h ⊢
 obtain ⟨i, m⟩ := k
 simp only at *
 have g1 := @Y1br s i m.toNat
 have g2 := @Y1cu s i
 have g3 := @Y1f4 s m.toNat
 have g4 := @Y19e s i m.toNat
 with_reducible repeat' (first | apply And.intro | exact zR | (intro) | apply Z6w)
 all_goals ((try simp only [std, inj] at *); with_reducible and_intros)
 all_goals try with_reducible first | apply Z6w
 all_goals try first | exact zw | grind [Ygz, Yd7, Yd8, Yd4]
 all_goals (rw [Y194]; simp only [Ygz, Bool.not_eq_false', decide_eq_true_eq] at *; omega))
theorem Zcl (s : ByteArray)  : Z7x s := Yde Tryz.call236 Tryz.func236 (.h (s.data.toList.length <= 9223372036854775807) (.i (0 < (s.data.toList.length : Int)) (.p ((0 :
 Int) <= 0 /\ 0 < s.data.toList.length) (.i ((↑(s.data.toList.getD 0 (0 : UInt8)).toNat : Int) = 45) (.h (s.data.toList.length <= 9223372036854775807) (.i (1 = (↑s.data.toList.length
 : Int)) (.y true (.f [] [] (.tup [li 0, lb false]))) (.h (s.data.toList.length <= 9223372036854775807) (.r ((s.data.toList.length : Int) - 1) (.i (9 < (↑s.data.toList.length :
 Int) - 1) (.f [] [] (.tup [li 0, lb false])) (.l (Z1r s) (Z55 s) [] [.s (li 1), .s (li 1), .s (li 0)] (atN s, 0) (.t (.i ((↑(atN s) : Int) = 1) (.r (0 - (↑(magN s)
 : Int)) (.d [.rd] (Z1h (0 - (↑(magN s) : Int))) (.i (Lib.itoa (0 - (↑(magN s) : Int)) ≠ s.data.toList) (.f [] [] (.tup [li 0, lb false])) (.f [] [] (.tup [li (0 - (↑(magN
 s) : Int)), lb true]))))) (.d [.rd] (Z1h (↑(magN s) : Int)) (.i (Lib.itoa (↑(magN s) : Int) ≠ s.data.toList) (.f [] [] (.tup [li 0, lb false])) (.f [] [] (.tup [li
 (↑(magN s) : Int), lb true]))))) (.t (.f [] [] (.tup [li 0, lb false])) .q)))))))) (.h (s.data.toList.length <= 9223372036854775807) (.i (0 = (s.data.toList.length : Int)) (.y
 true (.f [] [] (.tup [li 0, lb false]))) (.h (s.data.toList.length <= 9223372036854775807) (.r ((s.data.toList.length : Int) - 0) (.i (9 < (s.data.toList.length : Int) - 0) (.f
 [] [] (.tup [li 0, lb false])) (.l (Z1r s) (Z55 s) [] [.s (li 0), .s (li 0), .s (li 0)] (atN s, 0) (.t (.i ((↑(atN s) : Int) = 1) (.r (0 - (↑(magN s) : Int)) (.d
 [.rd] (Z1h (0 - (↑(magN s) : Int))) (.i (Lib.itoa (0 - (↑(magN s) : Int)) ≠ s.data.toList) (.f [] [] (.tup [li 0, lb false])) (.f [] [] (.tup [li (0 - (↑(magN s) : Int)),
 lb true]))))) (.d [.rd] (Z1h (↑(magN s) : Int)) (.i (Lib.itoa (↑(magN s) : Int) ≠ s.data.toList) (.f [] [] (.tup [li 0, lb false])) (.f [] [] (.tup [li (↑(magN s) : Int),
 lb true]))))) (.t (.f [] [] (.tup [li 0, lb false])) .q)))))))))) (.y false (.h (s.data.toList.length <= 9223372036854775807) (.i (0 = (s.data.toList.length : Int)) (.y true (.f
 [] [] (.tup [li 0, lb false]))) (.h (s.data.toList.length <= 9223372036854775807) (.r ((s.data.toList.length : Int) - 0) (.i (9 < (s.data.toList.length : Int) - 0) (.f [] []
 (.tup [li 0, lb false])) (.l (Z1r s) (Z55 s) [] [.s (li 0), .s (li 0), .s (li 0)] (atN s, 0) (.t (.i ((↑(atN s) : Int) = 1) (.r (0 - (↑(magN s) : Int)) (.d [.rd]
 (Z1h (0 - (↑(magN s) : Int))) (.i (Lib.itoa (0 - (↑(magN s) : Int)) ≠ s.data.toList) (.f [] [] (.tup [li 0, lb false])) (.f [] [] (.tup [li (0 - (↑(magN s) : Int)), lb
 true]))))) (.d [.rd] (Z1h (↑(magN s) : Int)) (.i (Lib.itoa (↑(magN s) : Int) ≠ s.data.toList) (.f [] [] (.tup [li 0, lb false])) (.f [] [] (.tup [li (↑(magN s) : Int), lb
 true]))))) (.t (.f [] [] (.tup [li 0, lb false])) .q))))))))))) (by
 dsimp only [Yd3, Z7x, Ydb, Z1r]
 have g1 := Y1cp s
 have g2 := @Y18j s
 have g3 := @Y1bu s
 have g4 : atN s = 0 ∨ atN s = 1 := by have := Y1k7 s; omega
 with_reducible repeat' (first | apply And.intro | exact zR | (intro) | apply Z6w)
 all_goals ((try simp only [std, inj] at *); with_reducible and_intros)
 all_goals try with_reducible first | apply Z6w
 all_goals try first | exact zw | grind [Yja, Y1c5, Ykt, sgN, atN, Yd7, Yd8, Yd4])
set_option maxHeartbeats 4000000
abbrev Z6x (n : Int) : Ct := ⟨202, [], [lu n], [], .sv (lb (Ygs n))⟩
theorem Z90 (n : Int)  : Z6x n := Yde Tryz.call202 Tryz.func202 (.i (n = 32) (.y true (.s (lb true))) (.i (n = 10) (.s (lb true)) (.s (lb (decide (n = 9)))))) (by
 dsimp only [Yd3, Z6x]
 with_reducible repeat' (first | apply And.intro | exact zR | (intro))
 all_goals ((try simp only [std, inj] at *); with_reducible and_intros)
 all_goals try first | exact z | grind [Ygs, Yd7, Yd8, Yd4])
abbrev Z7y (n : Int) : Ct := ⟨235, [], [lu n], [], .sv (lb (Yqd n))⟩
theorem Zcm (n : Int)  : Z7y n := Yde Tryz.call235 Tryz.func235 (.i (n = 40) (.y true (.y true (.y true (.s (lb true))))) (.i (n = 41) (.y true (.y true (.s (lb true))))
 (.i (n = 34) (.y true (.s (lb true))) (.i (n = 59) (.s (lb true)) (.s (lb (decide (n = 39)))))))) (by
 dsimp only [Yd3, Z7y]
 with_reducible repeat' (first | apply And.intro | exact zR | (intro))
 all_goals ((try simp only [std, inj] at *); with_reducible and_intros)
 all_goals try first | exact z | grind [Yqd, Yd7, Yd8, Yd4])
theorem Y1le {s : ByteArray} {a : Nat} (h : a < s.size) (hp : Ygs (byt s a) = true) : sk s (a + 1) = sk s a := Yza Ygs h hp
theorem Y15g {s : ByteArray} {a : Nat} (h : a <= s.size) (hp : a < s.size -> Ygs (byt s a) = false) : sk s a = a := Ytb Ygs h hp
theorem Y1if {s : ByteArray} {a k : Nat} (h : k < s.size) (hk : sk s k = sk s a) (hb : byt s k = 59) : noc s a = false := by
 have h1 : sk s k = k := Y15g (by omega) fun _ => by rw [hb]; decide
 rw [hk] at h1
 unfold noc; rw [h1, hb]; simp [h]
abbrev Z1i (s : ByteArray) (a : Nat) (b : Bool) : Ct := ⟨159, [.box [vS s, vI (a : Nat), vB b]], [.one (.ptr 0 0)], [.box [vS s, vI (sk s a : Nat), vB b]], .tup []⟩
def Z2m (s : ByteArray) (a : Nat) (b : Bool) (k : Nat) : Lp Nat := .mk 82 1 (fun x => [(0, .one (.ptr 0 0))]) (fun x => [.box [vS s, ha x 0, vB b]]) (fun k1 => [.a (vI
 (↑(k + k1) : Int))]) (fun k1 => k < k /\ k1 <= s.size) (fun k1 => s.size - k1) [.mk True (.exit 2) (fun x => [(0, .one (.ptr 0 0))]) (fun x => [.box [vS s, ha x 0, vB b]]) [.a
 (vI (k : Int))]]
def Z3h (s : ByteArray) (a : Nat) (b : Bool) : Lp Nat := .mk 82 1 (fun x => [(0, .one (.ptr 0 0))]) (fun x => [.box [vS s, ha x 0, vB b]]) (fun k => [.a (vI (↑k :
 Int))]) (fun k => a <= k /\ k <= s.size /\ sk s k = sk s a /\ noc s a = true) (fun k => s.size - k) [.mk True (.exit 0) (fun x => []) (fun x => [.box [vS s, ha x 0, vB b]]) [.a (vI
 (↑(sk s a) : Int))]]
theorem Z6y (s : ByteArray) (a : Nat) (b : Bool) (h : a <= s.size /\ noc s a = true) (k : Nat) : Lp.Sem Tryz.prog (Ydg Tryz.f159 1) (Z2m s a b k) := Ydr (fun k1 =>
 .w (.draw []) (.i ((↑(k + k1) : Int) < (s.data.toList.length : Int)) (.p (0 <= (↑(k + k1) : Int) /\ (↑(k + k1) : Int).toNat < s.data.toList.length) (.h (s.data.toList.length <=
 9223372036854775807) (.i ((↑(s.data.toList.getD (↑(k + k1) : Int).toNat (0 : UInt8)).toNat : Int) ≠ 10) (.r ((↑(k + k1) : Int) + 1) (.g [0] 1 [.a (vI ((↑(k + k1) : Int) + 1))]))
 (.o 0 [0] [.a (vI (↑(k + k1) : Int))])))) (.h (s.data.toList.length <= 9223372036854775807) (.y false (.o 0 [0] [.a (vI (↑(k + k1) : Int))]))))) (by
 intro k1 h; try dsimp only [Yd3, Ydb, Z2m] at h ⊢
 exact zV)
theorem Zac (s : ByteArray) (a : Nat) (b : Bool) (h : a <= s.size /\ noc s a = true) : Lp.Sem Tryz.prog (Ydg Tryz.f159 0) (Z3h s a b) := Ydr (fun k => .w (.draw [])
 (.i ((k : Int) < (s.data.toList.length : Int)) (.p (0 <= (k : Int) /\ (k : Int).toNat < s.data.toList.length) (.c [.rd] (Z90 (↑(s.data.toList.getD (k : Int).toNat (0 :
 UInt8)).toNat : Int)) (.b (Ygs (↑(s.data.toList.getD (k : Int).toNat (0 : UInt8)).toNat : Int)) (.h (s.data.toList.length <= 9223372036854775807) (.y true (.w (.draw []) (.p (0 <=
 (k : Int) /\ (k : Int).toNat < s.data.toList.length) (.i ((↑(s.data.toList.getD (k : Int).toNat (0 : UInt8)).toNat : Int) = 59) (.l (Z2m s a b k) (Z6y s a b h k)
 [0] [.a (vI (k : Int))] 0 (.t (.g [0] k [.a (vI (k : Int))]) .q)) (.r ((k : Int) + 1) (.g [0] (k + 1) [.a (vI ((k : Int) + 1))]))))))) (.p (0 <= (k : Int) /\ (k : Int).toNat <
 s.data.toList.length) (.h (s.data.toList.length <= 9223372036854775807) (.i ((↑(s.data.toList.getD (k : Int).toNat (0 : UInt8)).toNat : Int) = 59) (.w (.draw []) (.p (0 <= (↑k :
 Int) /\ (k : Int).toNat < s.data.toList.length) (.i ((↑(s.data.toList.getD (k : Int).toNat (0 : UInt8)).toNat : Int) = 59) (.l (Z2m s a b k) (Z6y s a b h k) [0] [.a
 (vI (k : Int))] 0 (.t (.g [0] k [.a (vI (k : Int))]) .q)) (.r ((k : Int) + 1) (.g [0] (k + 1) [.a (vI ((k : Int) + 1))]))))) (.o 0 [0] [.a (vI (k : Int))]))))))) (.h
 (s.data.toList.length <= 9223372036854775807) (.y false (.o 0 [0] [.a (vI (k : Int))]))))) (by
 intro k h; try dsimp only [Yd3, Ydb, Z3h, Z2m] at h ⊢
 have g1 := @Y1le s k
 have g2 := @Y15g s k
 have g3 := @Y1if s a k
 with_reducible repeat' (first | apply And.intro | exact zR | (intro))
 all_goals ((try simp only [std, inj] at *); with_reducible and_intros)
 all_goals try first | exact z | grind [byt, Yd7, Yd8, Yd4])
theorem Zp (s : ByteArray) (a : Nat) (b : Bool) (h : a <= s.size /\ noc s a = true)  : Z1i s a b := Yde Tryz.call159 Tryz.func159 (.l (Z3h s a b) (Zac s a b
 h) [0] [.a (vI (a : Int))] a (.t (.f [] [.box [vS s, vI (↑(sk s a) : Int), vB b]] (.tup [])) .q)) (by
 dsimp only [Yd3, Z1i, Ydb, Z3h]
 exact zV)
abbrev Y17y : AC := .val (.lit (.slice none 0 0))
theorem Y1fk {t : ByteArray} {d : Datum} (h : Yh5 t = some d) (h1 : Yja t = true) : d = ⟨2, Ykt t, mkS [], []⟩ := by
 unfold Yh5 at h; rw [if_pos h1] at h; exact (Option.some.inj h).symm
theorem Y1ls {t : ByteArray} {d : Datum} (h : Yh5 t = some d) (h1 : Yja t = false) (h2 : tx t = [35, 116]) : d = ⟨3, 1, mkS [], []⟩ := by
 unfold Yh5 at h; rw [if_neg (by simp [h1]), if_pos h2] at h; exact (Option.some.inj h).symm
theorem Y1lj {t : ByteArray} {d : Datum} (h : Yh5 t = some d) (h1 : Yja t = false) (h2 : tx t ≠ [35, 116]) (h3 : tx t = [35, 102]) : d = ⟨3, 0, mkS [], []⟩ := by
 unfold Yh5 at h; rw [if_neg (by simp [h1]), if_neg h2, if_pos h3] at h; exact (Option.some.inj h).symm
theorem Y1kl {t : ByteArray} {d : Datum} (h : Yh5 t = some d) (h1 : Yja t = false) (h2 : tx t ≠ [35, 116]) (h3 : tx t ≠ [35, 102]) : Yft t = true /\ d = ⟨1, 0, t, []⟩ := by
 unfold Yh5 at h; rw [if_neg (by simp [h1]), if_neg h2, if_neg h3] at h
 split at h
 ·rename_i e; exact ⟨e, (Option.some.inj h).symm⟩
 ·cases h
abbrev Z5q (n : Int) : Ct := ⟨209, [], [li n], [], .sv (.agg [vI 2, vI n, vS (mkS []), Y17y])⟩
theorem Z62 (n : Int) (h : -999999999 <= n /\ n <= 999999999)  : Z5q n := Yde Tryz.call209 Tryz.func209 (.c [.rd, .rd, .rd] (Z1b n (-999999999 : Int) 999999999) (.b
 (!decide ((-999999999 : Int) <= n /\ n <= 999999999)) (.s (.agg [vI 0, vI 0, vS (ByteArray.mk #[]), .val (.lit (.slice none 0 0))])) (.s (.agg [vI 2, vI n, vS
 (ByteArray.mk #[]), .val (.lit (.slice none 0 0))])))) (by
 dsimp only [Yd3, Z5q]
 exact zV)
abbrev Z7z (b : Bool) : Ct := ⟨210, [], [lb b], [], .sv (.agg [vI 3, vI (if b = true then 1 else 0), vS (mkS []), Y17y])⟩
theorem Za0 (b : Bool)  : Z7z b := Yde Tryz.call210 Tryz.func210 (.b b (.s (.agg [vI 3, vI 1, vS (ByteArray.mk #[]), .val (.lit (.slice none 0 0))])) (.s
 (.agg [vI 3, vI 0, vS (ByteArray.mk #[]), .val (.lit (.slice none 0 0))]))) (by
 dsimp only [Yd3, Z7z]
 exact zV)
abbrev Z56 (s : ByteArray) : Ct := ⟨203, [], [ls s], [], .sv (.agg [vI 1, vI 0, vS s, Y17y])⟩
theorem Z1j (s : ByteArray) (h : Yft s = true)  : Z56 s := Yde Tryz.call203 Tryz.func203 (.c [.rd] (Zd s) (.b (!Yft s) (.s (.agg [vI 0, vI 0, vS (ByteArray.mk
 #[]), .val (.lit (.slice none 0 0))])) (.s (.agg [vI 1, vI 0, vS s, .val (.lit (.slice none 0 0))])))) (by
 dsimp only [Yd3, Z56]
 exact zV)
abbrev Z6j (s : ByteArray) : Ct := ⟨205, [], [ls s], [], .sv (.agg [vI 4, vI 0, vS s, Y17y])⟩
theorem Z3y (s : ByteArray) (h : Yh1 s = true)  : Z6j s := Yde Tryz.call205 Tryz.func205 (.c [.rd] (Z43 s) (.b (!Yh1 s) (.s (.agg [vI 0, vI 0, vS (ByteArray.mk
 #[]), .val (.lit (.slice none 0 0))])) (.s (.agg [vI 4, vI 0, vS s, .val (.lit (.slice none 0 0))])))) (by
 dsimp only [Yd3, Z6j]
 exact zV)
def atR (d : Datum) (a : Nat) : Nat := a
theorem Y1gf {s : ByteArray} {a : Nat} (h : a < s.size) (h1 : Ygs (byt s a) = false) (h2 : Yqd (byt s a) = false) : pst isRu s (a + 1) = pst isRu s a := Yza isRu h (by show (!Ygs (byt s a) && !Yqd (byt s a)) = true; rw [h1, h2]; rfl)
theorem Y19a {s : ByteArray} {a : Nat} (h : a <= s.size) (hp : a < s.size -> Ygs (byt s a) = true ∨ Yqd (byt s a) = true) : pst isRu s a = a := Ytb isRu h fun e => by
 have := hp e
 show (!Ygs (byt s a) && !Yqd (byt s a)) = false
 rcases this with e | e <;> rw [e] <;> simp
theorem Y1fi {s : ByteArray} {a : Nat} (h : a < s.size) (h1 : byt s a ≠ 34) : pst noQ s (a + 1) = pst noQ s a := Yza noQ h (by show (!decide (byt s a = 34)) = true; simp [h1])
theorem Y1ag {s : ByteArray} {a : Nat} (h : a <= s.size) (hp : a < s.size -> byt s a = 34) : pst noQ s a = a := Ytb noQ h fun e => by show (!decide (byt s a = 34)) = false; simp [hp e]
def atG (t : ByteArray) : Datum := (Yh5 t).getD default
abbrev Z5r (s : ByteArray) (a : Nat) : Ct := ⟨206, [.box [vS s, vI (a : Nat), vB false]], [.one (.ptr 0 0)], .box [vS s, vI (pst isRu s a : Nat), vB false] :: Yzq (atG (sbs s a (pst isRu s a))), .sv (Yro (atG (sbs s a (pst isRu s a))) 1)⟩
def Z3i (s : ByteArray) (a : Nat) : Lp Nat := .mk 92 1 (fun x => [(0, .one (.ptr 0 0)), (2, .one (.ptr 1 0)), (3, li (a : Int))]) (fun x => [.box [vS s, ha x 0,
 vB false], .box [vI 0, vI 0, vS (ByteArray.mk #[]), .val (.lit (.slice none 0 0))]]) (fun k => [.a (vI (k : Int))]) (fun k => a <= k /\ k <= s.size /\ pst isRu s k = pst
 isRu s a) (fun k => s.size - k) [.mk True (.exit 0) (fun x => [(0, .one (.ptr 0 0)), (2, .one (.ptr 1 0)), (3, li (a : Int))]) (fun x => [.box [vS s, ha x 0, vB false],
 .box [vI 0, vI 0, vS (ByteArray.mk #[]), .val (.lit (.slice none 0 0))]]) [.a (vI (↑(pst isRu s a) : Int))]]
theorem Zad (s : ByteArray) (a : Nat) (h : a <= s.size /\ s.size <= 15000 /\ (Yh5 (sbs s a (pst isRu s a))).isSome = true) : Lp.Sem Tryz.prog (Ydg Tryz.f206 0) (Z3i
 s a) := Ydr (fun k => .w (.draw []) (.i ((k : Int) < (s.data.toList.length : Int)) (.p (0 <= (k : Int) /\ (k : Int).toNat < s.data.toList.length) (.c [.rd] (Z90
 (↑(s.data.toList.getD (k : Int).toNat (0 : UInt8)).toNat : Int)) (.b (!Ygs (↑(s.data.toList.getD (k : Int).toNat (0 : UInt8)).toNat : Int)) (.p (0 <= (k : Int) /\ (↑k :
 Int).toNat < s.data.toList.length) (.c [.rd] (Zcm (↑(s.data.toList.getD (k : Int).toNat (0 : UInt8)).toNat : Int)) (.h (s.data.toList.length <= 9223372036854775807) (.b (!Yqd
 (↑(s.data.toList.getD (k : Int).toNat (0 : UInt8)).toNat : Int)) (.r ((k : Int) + 1) (.g [0, 1] (k + 1) [.a (vI ((k : Int) + 1))])) (.o 0 [0, 1] [.a (vI (k : Int))]))))) (.h
 (s.data.toList.length <= 9223372036854775807) (.y false (.o 0 [0, 1] [.a (vI (k : Int))])))))) (.y false (.h (s.data.toList.length <= 9223372036854775807) (.y false (.o 0 [0, 1]
 [.a (vI (k : Int))])))))) (by
 intro k h; try dsimp only [Yd3, Ydb, Z3i] at h ⊢
 have g1 := @Y1gf s k
 have g2 := @Y19a s k
 with_reducible repeat' (first | apply And.intro | exact zR | (intro) | apply Z62 | apply Z1j)
 all_goals ((try simp only [std, inj] at *); with_reducible and_intros)
 all_goals try with_reducible first | apply Z62 | apply Z1j
 all_goals try first | exact z | grind [byt, Yd7, Yd8, Yd4])
theorem Z2t (s : ByteArray) (a : Nat) (h : a <= s.size /\ s.size <= 15000 /\ (Yh5 (sbs s a (pst isRu s a))).isSome = true)  : Z5r s a := Yde Tryz.call206 Tryz.func206 (.l
 (Z3i s a) (Zad s a h) [0, 1] [.a (vI (a : Int))] a (.t (.w (.draw []) (.p (0 <= (a : Int)) (.p (0 <= (↑(pst isRu s a) : Int)) (.p ((a : Int).toNat <= (↑(pst isRu s
 a) : Int).toNat /\ (↑(pst isRu s a) : Int).toNat <= s.data.toList.length) (.c [.rd] (Zcl (ByteArray.mk (List.take ((↑(pst isRu s a) : Int).toNat - (a : Int).toNat) (List.drop
 (a : Int).toNat s.data.toList)).toArray)) (.b (Yja (ByteArray.mk (List.take ((↑(pst isRu s a) : Int).toNat - (a : Int).toNat) (List.drop (a : Int).toNat
 s.data.toList)).toArray)) (.d [.rd] (Z5q (Ykt (ByteArray.mk (List.take ((↑(pst isRu s a) : Int).toNat - (a : Int).toNat) (List.drop (a : Int).toNat
 s.data.toList)).toArray))) (.w (.ghost (.nilbox 1 3 true 4)) (.f [2] [.box [vS s, vI (↑(pst isRu s a) : Int), vB false], .arr true 4 []] (.sv (.agg [vI 2, vI (Ykt
 (ByteArray.mk (List.take ((↑(pst isRu s a) : Int).toNat - (a : Int).toNat) (List.drop (a : Int).toNat s.data.toList)).toArray)), vS (mkS []), .ref 1]))))) (.i (List.take
 ((↑(pst isRu s a) : Int).toNat - (a : Int).toNat) (List.drop (a : Int).toNat s.data.toList) = [(35 : UInt8), (116 : UInt8)]) (.y true (.c [.rd] (Za0 (decide (List.take
 ((↑(pst isRu s a) : Int).toNat - (a : Int).toNat) (List.drop (a : Int).toNat s.data.toList) = [(35 : UInt8), (116 : UInt8)]))) (.w (.ghost (.nilbox 1 3 true 4)) (.f [2] [.box
 [vS s, vI (↑(pst isRu s a) : Int), vB false], .arr true 4 []] (.sv (.agg [vI 3, vI (if decide (List.take ((↑(pst isRu s a) : Int).toNat - (a : Int).toNat) (List.drop (↑a :
 Int).toNat s.data.toList) = [(35 : UInt8), (116 : UInt8)]) = true then 1 else 0), vS (mkS []), .ref 1])))))) (.i (List.take ((↑(pst isRu s a) : Int).toNat - (a : Int).toNat)
 (List.drop (a : Int).toNat s.data.toList) = [(35 : UInt8), (102 : UInt8)]) (.c [.rd] (Za0 (decide (List.take ((↑(pst isRu s a) : Int).toNat - (a : Int).toNat) (List.drop (↑a
 : Int).toNat s.data.toList) = [(35 : UInt8), (116 : UInt8)]))) (.w (.ghost (.nilbox 1 3 true 4)) (.f [2] [.box [vS s, vI (↑(pst isRu s a) : Int), vB false], .arr true 4 []]
 (.sv (.agg [vI 3, vI (if decide (List.take ((↑(pst isRu s a) : Int).toNat - (a : Int).toNat) (List.drop (a : Int).toNat s.data.toList) = [(35 : UInt8), (116 : UInt8)]) =
 true then 1 else 0), vS (mkS []), .ref 1]))))) (.c [.rd] (Zd (ByteArray.mk (List.take ((↑(pst isRu s a) : Int).toNat - (a : Int).toNat) (List.drop (a : Int).toNat
 s.data.toList)).toArray)) (.b (Yft (ByteArray.mk (List.take ((↑(pst isRu s a) : Int).toNat - (a : Int).toNat) (List.drop (a : Int).toNat s.data.toList)).toArray)) (.d [.rd]
 (Z56 (ByteArray.mk (List.take ((↑(pst isRu s a) : Int).toNat - (a : Int).toNat) (List.drop (a : Int).toNat s.data.toList)).toArray)) (.w (.ghost (.nilbox 1 3 true 4)) (.f
 [2] [.box [vS s, vI (↑(pst isRu s a) : Int), vB false], .arr true 4 []] (.sv (.agg [vI 1, vI 0, vS (ByteArray.mk (List.take ((↑(pst isRu s a) : Int).toNat - (↑a :
 Int).toNat) (List.drop (a : Int).toNat s.data.toList)).toArray), .ref 1]))))) (.w (.ghost (.nilbox 1 3 true 4)) (.f [2] [.box [vS s, vI (↑(pst isRu s a) : Int), vB true],
 .arr true 4 []] (.sv (.agg [vI 0, vI 0, vS (ByteArray.mk #[]), .ref 1])))))))))))))) .q)) (by
 dsimp only [Yd3, Z5r, Ydb, Z3i]
 have g0 : Yh5 (sbs s a (pst isRu s a)) = some (atG (sbs s a (pst isRu s a))) := by obtain ⟨d, e⟩ := Option.isSome_iff_exists.1 h.2.2; unfold atG; rw [e]; rfl
 have g1 := @Y1fk (sbs s a (pst isRu s a)) (atG (sbs s a (pst isRu s a))) g0
 have g2 := @Y1ls (sbs s a (pst isRu s a)) (atG (sbs s a (pst isRu s a))) g0
 have g3 := @Y1lj (sbs s a (pst isRu s a)) (atG (sbs s a (pst isRu s a))) g0
 have g4 := @Y1kl (sbs s a (pst isRu s a)) (atG (sbs s a (pst isRu s a))) g0
 have g5 := @Y1ac (sbs s a (pst isRu s a))
 have g7 := @Yk7 isRu s a
 have g8 := Y1iu s a (pst isRu s a)
 have g9 := Y1jz s a (pst isRu s a)
 with_reducible repeat' (first | apply And.intro | exact zR | (intro) | apply Z62 | apply Z1j)
 all_goals ((try simp only [std, inj] at *); with_reducible and_intros)
 all_goals try with_reducible first | apply Z62 | apply Z1j
 all_goals (try exact zG))
theorem Ynk : ∀ L : List Datum, L.length <= sumBy sizeD L
 | [] => Nat.le_refl _
 | x :: r => by have := Ynk r; have := Yhz x; simp only [List.length_cons, sumBy]; omega
theorem Y1md {d : Datum} {s : ByteArray} {a : Nat} (h : a <= s.size) (hd : okR d s a = true) (hb : byt s (sk s a) = 40) : noc s (sk s a + 1) = true := by
 have := (rdl h hd hb (Nat.zero_le _)).2.1
 rwa [Y1hi h hd] at this
def dfD : Datum := default
abbrev Z6z (s : ByteArray) (n : Int) : Ct := ⟨160, [.box [vS s, vI n, vB false]], [.one (.ptr 0 0)], .box [vS s, vI n, vB false] :: Yzq dfD, .sv (Yro dfD 1)⟩
theorem Z26 (s : ByteArray) (n : Int) (h : n < n) : OK (Z6z s n) := absurd h (Int.lt_irrefl n)
abbrev Zh (s : ByteArray) (a : Nat) (d : Datum) : Ct := ⟨160, [.box [vS s, vI (sk s (atR d a) : Nat), vB false]], [.one (.ptr 0 0)], .box [vS s, vI (enR d s a : Nat), vB false] :: Yzq d, .sv (Yro d 1)⟩
def Z1x (s : ByteArray) (a : Nat) (d : Datum) : Lp Nat := .mk 228 1 (fun x => [(0, .one (.ptr 0 0)), (2, .one (.ptr 1 0)), (4, .one (.ptr 2 0))]) (fun x =>
 [.box [vS s, ha x 0, vB false], .box [vI 0, vI 0, vS (ByteArray.mk #[]), .val (.lit (.slice none 0 0))], .box [vI 0, vI 0, vS (ByteArray.mk #[]), .ref 3], ho x
 1]) (fun k => [.a (vI (↑(sk s (atR (d.items.getD k default) (enP (d.items.take k) s (sk s a + 1)))) : Int)), .o (.arr true 4 ((d.items.take k).map Ydd))]) (fun
 k => k <= d.items.length /\ d.items.length <= 9223372036854775807 /\ a <= s.size /\ s.size <= 15000 /\ okR d s a = true /\ byt s (sk s a) = 40 /\ sizeD d <= 600) (fun k => d.items.length -
 k) [.mk True (.exit 3) (fun x => [(0, .one (.ptr 0 0)), (2, .one (.ptr 1 0)), (4, .one (.ptr 2 0))]) (fun x => [.box [vS s, ha x 0, vB false], .box [vI 0, vI 0, vS
 (ByteArray.mk #[]), .val (.lit (.slice none 0 0))], .box [vI 0, vI 0, vS (ByteArray.mk #[]), .ref 3], ho x 1]) [.a (vI (↑(sk s (enP d.items s (sk s a + 1))) :
 Int)), .o (.arr true 4 (d.items.map Ydd))]]
def Z1y (s : ByteArray) (a : Nat) (d : Datum) : Lp Nat := .mk 228 1 (fun x => [(0, .one (.ptr 0 0)), (2, .one (.ptr 1 0)), (3, hs x 1)]) (fun x => [.box [vS s,
 ha x 0, vB false], .box [vI 0, vI 0, vS (ByteArray.mk #[]), .val (.lit (.slice none 0 0))]]) (fun k => [.a (vI (k : Int)), .s (li (↑(sk s a + 1) : Int))]) (fun k =>
 sk s a + 1 <= k /\ k <= s.size /\ pst noQ s k = pst noQ s (sk s a + 1)) (fun k => s.size - k) [.mk True (.exit 1) (fun x => [(0, .one (.ptr 0 0)), (2, .one (.ptr 1 0)), (3, hs
 x 1)]) (fun x => [.box [vS s, ha x 0, vB false], .box [vI 0, vI 0, vS (ByteArray.mk #[]), .val (.lit (.slice none 0 0))]]) [.a (vI (↑(pst noQ s (sk s a + 1)) :
 Int)), .s (li (↑(sk s a + 1) : Int))]]
theorem Z83 (s : ByteArray) (a : Nat) (d : Datum) (h : a <= s.size /\ s.size <= 15000 /\ okR d s a = true /\ sizeD d <= 600) (ih : ∀ (z : Datum), z ∈ d.items -> ∀ (s :
 ByteArray) (a : Nat), a <= s.size /\ s.size <= 15000 /\ okR z s a = true /\ sizeD z <= 600 -> OK (Zh s a z)) : Lp.Sem Tryz.prog (Ydg Tryz.f160 1) (Z1x s a d) := Ydr
 (fun k => .w (.draw []) (.y true (.i ((↑(sk s (atR (d.items.getD k default) (enP (d.items.take k) s (sk s a + 1)))) : Int) < (s.data.toList.length : Int)) (.p (0 <= (↑(sk s
 (atR (d.items.getD k default) (enP (d.items.take k) s (sk s a + 1)))) : Int) /\ (↑(sk s (atR (d.items.getD k default) (enP (d.items.take k) s (sk s a + 1)))) : Int).toNat
 < s.data.toList.length) (.h (s.data.toList.length <= 9223372036854775807) (.i ((↑(s.data.toList.getD (↑(sk s (atR (d.items.getD k default) (enP (d.items.take k) s (sk s a +
 1)))) : Int).toNat (0 : UInt8)).toNat : Int) ≠ 41) (.w (.draw [(3, [0]), (4, [7]), (5, [3, 14]), (7, [2])]) (.d [.ptr] (Zh s (enP (d.items.take k) s (sk s a + 1))
 (d.items.getD k default)) (.p ((((d.items.take k).map Ydd).length + 1) * 56 <= 140737488355328) (.d [.ptr] (Z1i s (enR (d.items.getD k default) s (enP (List.take
 k d.items) s (sk s a + 1))) false) (.g [0, 1, 2, 15] (k + 1) [.a (vI (↑(sk s (enR (d.items.getD k default) s (enP (d.items.take k) s (sk s a + 1)))) : Int)), .o (.arr true
 4 ((d.items.take k).map Ydd ++ [Yf8 (d.items.getD k default)]))]))))) (.o 0 [0, 1, 2, 3] [.a (vI (↑(sk s (atR (d.items.getD k default) (enP (d.items.take k) s
 (sk s a + 1)))) : Int)), .o (.arr true 4 ((d.items.take k).map Ydd))])))) (.h (s.data.toList.length <= 9223372036854775807) (.y false (.o 0 [0, 1, 2, 3] [.a (vI
 (↑(sk s (atR (d.items.getD k default) (enP (d.items.take k) s (sk s a + 1)))) : Int)), .o (.arr true 4 ((d.items.take k).map Ydd))])))))) (by
 intro k h; try dsimp only [Yd3, Ydb, Z1x] at h ⊢
 have hq := h
 obtain ⟨q1, q2, q3, q4, q5, q6, q7⟩ := hq
 have g7 := Yhz d
 have g8 := Ynk d.items
 have g9 := @Yew _ sizeD d.items (d.items.getD k default)
 have g4 := @rdl d s a q3 q5 q6 k q1
 have g5 : k < d.items.length -> _ := fun hk => @rdl d s a q3 q5 q6 (k + 1) hk
 with_reducible repeat' (first | apply And.intro | exact zR | exact ih | (intro) | apply Zp | apply Z2t | apply Z3y | apply Z1j | apply Z26 | apply ih)
 all_goals ((try simp only [std, inj] at *); with_reducible and_intros)
 all_goals try first | with_reducible (first | apply Zp | apply Z2t | apply Z3y | apply Z1j | apply Z26 | apply ih) | (simp only [<- List.map_append]; with_reducible first | apply Zp | apply Z2t | apply Z3y | apply Z1j | apply Z26 | apply ih)
 all_goals try first | exact z | grind [byt, atR, Ydn, Yd6, Yd7, Yd8, Yd4])
theorem Z84 (s : ByteArray) (a : Nat) (d : Datum) (h : a <= s.size /\ s.size <= 15000 /\ okR d s a = true /\ sizeD d <= 600) (ih : ∀ (z : Datum), z ∈ d.items -> ∀ (s :
 ByteArray) (a : Nat), a <= s.size /\ s.size <= 15000 /\ okR z s a = true /\ sizeD z <= 600 -> OK (Zh s a z)) : Lp.Sem Tryz.prog (Ydg Tryz.f160 0) (Z1y s a d) := Ydr
 (fun k => .w (.draw []) (.i ((k : Int) < (s.data.toList.length : Int)) (.p (0 <= (k : Int) /\ (k : Int).toNat < s.data.toList.length) (.h (s.data.toList.length <=
 9223372036854775807) (.i ((↑(s.data.toList.getD (k : Int).toNat (0 : UInt8)).toNat : Int) ≠ 34) (.r ((k : Int) + 1) (.g [0, 1] (k + 1) [.a (vI ((k : Int) + 1)), .s (li (↑(sk s
 a + 1) : Int))])) (.o 0 [0, 1] [.a (vI (k : Int)), .s (li (↑(sk s a + 1) : Int))])))) (.h (s.data.toList.length <= 9223372036854775807) (.y false (.o 0 [0, 1] [.a (vI (k : Int)),
 .s (li (↑(sk s a + 1) : Int))]))))) (by
 intro k h; try dsimp only [Yd3, Ydb, Z1y] at h ⊢
 have g1 := @Y1fi s k
 have g2 := @Y1ag s k
 with_reducible repeat' (first | apply And.intro | exact zR | exact ih | (intro) | apply Zp | apply Z2t | apply Z3y | apply Z1j | apply Z26)
 all_goals ((try simp only [std, inj] at *); with_reducible and_intros)
 all_goals try with_reducible first | apply Zp | apply Z2t | apply Z3y | apply Z1j | apply Z26 | apply ih
 all_goals try first | exact z | grind [byt, Yd7, Yd8, Yd4])
theorem Zae (s : ByteArray) (a : Nat) (d : Datum) (h : a <= s.size /\ s.size <= 15000 /\ okR d s a = true /\ sizeD d <= 600) (ih : ∀ z ∈ d.items, ∀ (s : ByteArray) (a : Nat) (h :
 a <= s.size /\ s.size <= 15000 /\ okR z s a = true /\ sizeD z <= 600), Zh s a z)  : Zh s a d := Yde Tryz.call160 Tryz.func160 (let v1 := (↑(pst noQ s (sk s a + 1)) :
 Int); let v12 := (sk s (atR d a)); let v2 := (↑(sk s v12) : Int); let v3 := (.sv (.agg [vI 0, vI 0, vS (ByteArray.mk #[]), .ref 1])); let v4 := (↑(sk s a + 1) : Int); let v5
 := (atG (sbs s (sk s v12) (pst isRu s (sk s v12)))); let v6 := (s.data.toList.length <= 9223372036854775807); let v7 := (↑(s.data.toList.getD v2.toNat (0 : UInt8)).toNat : Int);
 let v8 := (ByteArray.mk (List.take ((v1 + 1 - 1).toNat - v4.toNat) (List.drop v4.toNat s.data.toList)).toArray); let v9 := (↑(sk s (enP d.items s (sk s a + 1))) : Int); let v10 :=
 (ByteArray.mk (List.take (v1.toNat - v4.toNat) (List.drop v4.toNat s.data.toList)).toArray); let v11 := (ByteArray.mk #[(113 : UInt8), (117 : UInt8), (111 : UInt8), (116 : UInt8),
 (101 : UInt8)]); .d [.ptr] (Z1i s v12 false) (.w (.draw []) (.y false (.i ((s.data.toList.length : Int) <= v2) (.h v6 (.y true (.w (.ghost (.nilbox 1 3 true 4)) (.f [2]
 [.box [vS s, vI v2, vB true], .arr true 4 []] v3)))) (.p (0 <= v2 /\ v2.toNat < s.data.toList.length) (.h v6 (.i (v7 = 41) (.w (.ghost (.nilbox 1 3 true 4)) (.f [2] [.box [vS
 s, vI v2, vB true], .arr true 4 []] v3)) (.w (.draw []) (.p (0 <= v2 /\ v2.toNat < s.data.toList.length) (.i (v7 = 39) (.r (v2 + 1) (.d [.rd] (Z56 v11) (.d [.ptr] (Z6z
 s (v2 + 1)) (.f [4] [.box [vS s, vI (v2 + 1), vB false], .arr true 4 [[cI 1, cI 0, cS v11, .list []], [cI dfD.kind, cI dfD.number, cS dfD.text, .list []]]] v3)))) (.i
 (v7 = 34) (.r (v2 + 1) (.l (Z1y s a d) (Z84 s a d h ih) [0, 1] [.a (vI (v2 + 1)), .s (li (v2 + 1))] (sk s a + 1) (.t (.w (.draw []) (.i ((↑s.data.toList.length
 : Int) <= v1) (.h v6 (.y true (.w (.ghost (.nilbox 1 3 true 4)) (.f [2] [.box [vS s, vI v1, vB true], .arr true 4 []] v3)))) (.p (0 <= v4) (.p (0 <= v1) (.p (v4.toNat <= v1.toNat
 /\ v1.toNat <= s.data.toList.length) (.c [.rd] (Z43 v10) (.h v6 (.b (!Yh1 v10) (.w (.ghost (.nilbox 1 3 true 4)) (.f [2] [.box [vS s, vI v1, vB true], .arr true 4 []]
 v3)) (.r (v1 + 1) (.w (.draw [(12, [1])]) (.r (v1 + 1 - 1) (.p (0 <= v4) (.p (0 <= v1 + 1 - 1) (.p (v4.toNat <= (v1 + 1 - 1).toNat /\ (v1 + 1 - 1).toNat <= s.data.toList.length) (.d
 [.rd] (Z6j v8) (.w (.ghost (.nilbox 1 3 true 4)) (.f [2] [.box [vS s, vI (v1 + 1), vB false], .arr true 4 []] (.sv (.agg [vI 4, vI 0, vS v8, .ref
 1]))))))))))))))))))) .q))) (.i (v7 = 40) (.r (v2 + 1) (.d [.ptr] (Z1i s (sk s v12 + 1) false) (.w (.ghost (.nilbox 2 3 true 4)) (.l (Z1x s a d) (Z83 s a
 d h ih) [0, 1, 2, 3] [.a (vI (↑(sk s (sk s v12 + 1)) : Int)), .o (.arr true 4 [])] 0 (.t (.w (.draw [(19, [0])]) (.y false (.h v6 (.r (v9 + 1) (.f [3] [.box [vS s, vI (v9 +
 1), vB (decide ((s.data.toList.length : Int) <= v9))], .arr true 4 (d.items.map Ydd)] v3))))) .q))))) (.d [.ptr] (Z5r s (sk s v12)) (.f [3] [.box [vS s, vI
 (↑(pst isRu s (sk s v12)) : Int), vB false], .arr true 4 (v5.items.map Ydd)] (.sv (.agg [vI v5.kind, vI v5.number, vS v5.text, .ref 1])))))))))))))))) (by
 dsimp only [Yd3, Zh, Ydb, Z1y, Z1x]
 have g1 := @Y1kp d s a
 have g2 := @Y1h3 d s a
 have g3 := @Y1hr d s a
 have g4 := @Y1hb d s a
 have g5 := @Y1hi d s a
 have g6 := @Y1eq s a
 have e0 : sk s (atR d a) = sk s a := rfl
 have g9 := @Y1md d s a
 have g17 : Yh5 (sbs s (sk s a) (pst isRu s (sk s a))) = some d -> atG (sbs s (sk s a) (pst isRu s (sk s a))) = d := fun q => by unfold atG; rw [q]; rfl
 have g10 : enR d s a <= s.size := (Y1jx h.1 h.2.2.1).2.2
 have g11 : d.items.length <= 600 := by have := Yhz d; have := Ynk d.items; have := h.2.2.2; omega
 have e1 : sk s (sk s (atR d a)) = sk s a := Ywl h.1
 have g7 : sk s a + 1 <= s.size -> sk s a + 1 <= pst noQ s (sk s a + 1) /\ pst noQ s (sk s a + 1) <= s.size := fun q => (Yk7 noQ q).2
 have g8 : sk s a <= s.size -> sk s a <= pst isRu s (sk s a) /\ pst isRu s (sk s a) <= s.size := fun q => (Yk7 isRu q).2
 with_reducible repeat' (first | apply And.intro | exact zR | exact ih | (intro) | apply Zp | apply Z2t | apply Z3y | apply Z1j | apply Z26)
 all_goals ((try simp only [std, inj] at *); with_reducible and_intros)
 all_goals try with_reducible first | apply Zp | apply Z2t | apply Z3y | apply Z1j | apply Z26 | apply ih
 all_goals try first | exact z | grind [byt, atR, Yd7, Yd8, Yd4])
theorem Z3z (d : Datum) : ∀ (s : ByteArray) (a : Nat) (h : a <= s.size /\ s.size <= 15000 /\ okR d s a = true /\ sizeD d <= 600), Zh s a d := Datum.ind (P := fun d => ∀ (s : ByteArray) (a : Nat) (h : a <= s.size /\ s.size <= 15000 /\ okR d s a = true /\ sizeD d <= 600), Zh s a d) (fun d ih s a h => Zae s a d h ih) d
theorem Yte {L : List Datum} {s : ByteArray} {k : Nat} (h : Yk0 L s = true) (hk : k < L.length) :
  okR (L.getD k default) s (enP (L.take k) s 0) = true /\ enP (L.take (k + 1)) s 0 = enR (L.getD k default) s (enP (L.take k) s 0) /\ enP (L.take k) s 0 <= s.size /\ sk s (enP (L.take k) s 0) < s.size /\ noc s (enP (L.take k) s 0) = true := by
 simp only [Yk0, Bool.and_eq_true, decide_eq_true_eq] at h
 have h1 := Y11k (Nat.zero_le _) h.1.1.1.1 hk
 have h2 := (Yra (Nat.zero_le _) (Yp3 (k := k) (Nat.zero_le _) h.1.1.1.1)).2.2
 have h3 := Yhk h2 h1.1
 exact ⟨h1.1, h1.2, h2, h3.2.1, h3.1⟩
theorem Y1gq {s : ByteArray} {a : Nat} (h : sk s a = s.size) : noc s a = true := by simp [noc, h]
theorem Ys6 {L : List Datum} {s : ByteArray} (h : Yk0 L s = true) : sk s (enP L s 0) = s.size /\ enP L s 0 <= s.size /\ noc s (enP L s 0) = true /\ L.all Yjt = true /\ sumBy sizeD L <= 600 /\ s.size <= 15000 /\ L.length <= 600 := by
 simp only [Yk0, Bool.and_eq_true, decide_eq_true_eq] at h
 exact ⟨h.1.1.1.2, (Yra (Nat.zero_le _) h.1.1.1.1).2.2, Y1gq h.1.1.1.2, h.1.1.2, h.1.2, h.2, Nat.le_trans (Ynk L) h.1.2⟩
theorem Y1bg {L : List Datum} {s : ByteArray} {k : Nat} (h : Yk0 L s = true) (hk : k <= L.length) : enP (L.take k) s 0 <= s.size /\ noc s (enP (L.take k) s 0) = true /\ (k = L.length -> sk s (enP (L.take k) s 0) = s.size) := by
 rcases Nat.lt_or_eq_of_le hk with hl | rfl
 ·have := Yte h hl; exact ⟨this.2.2.1, this.2.2.2.2, fun e => by omega⟩
 ·have := Ys6 h; rw [List.take_length]; exact ⟨this.2.1, this.2.2.1, fun _ => this.1⟩
theorem Y10x {L : List Datum} {s : ByteArray} : enP (L.take 0) s 0 = 0 := Yx2 s (Nat.zero_le _)
theorem Y1cz {L : List Datum} {s : ByteArray} (h : Yk0 L s = true) : noc s 0 = true := by
 cases L with
 | nil => have := (Ys6 h).2.2.1; rwa [Yx2 s (Nat.zero_le _)] at this
 | cons x l => have := (Yte (k := 0) h (by simp)).2.2.2.2; rwa [Y10x] at this
def Y16n (L : List Datum) : Bool := L.all Yjt && decide ((sumBy sizeD L : Int) <= 600)
abbrev Z10 (d : Datum) : Ct := ⟨208, [], [Yol d], [], .sv (li (sizeD d : Nat))⟩
def Z2n (d : Datum) : Lp Nat := .mk 19 0 (fun x => [(3, hs x 1), (7, ll (d.items.map Ydd)), (8, li (↑(d.items.map Ydd).length : Int)), (9, hs x 0)]) (fun x
 => []) (fun k => [.s (li (k : Int)), .s (li (↑(1 + sumBy sizeD (d.items.take k)) : Int))]) (fun k => k <= d.items.length /\ d.items.length <= 9223372036854775807) (fun k =>
 d.items.length - k) [.mk True (.exit 0) (fun x => [(3, hs x 0)]) (fun x => []) [.s (li (↑(1 + sumBy sizeD d.items) : Int))]]
theorem Z91 (d : Datum) (h : sizeD d <= 2147483647) (ih : ∀ (z : Datum), z ∈ d.items -> sizeD z <= 2147483647 -> OK (Z10 z)) : Lp.Sem Tryz.prog (Ydg Tryz.f208 0)
 (Z2n d) := Ydr (fun k => .i ((k : Int) < (↑(d.items.map Ydd).length : Int)) (.x (k : Int) (d.items.map Ydd) (Yf8 (d.items.getD k default)) (.d [.rd]
 (Z10 (d.items.getD k default)) (.r ((↑(1 + sumBy sizeD (d.items.take k)) : Int) + (↑(sizeD (d.items.getD k default)) : Int)) (.r ((k : Int) + 1) (.g [] (k + 1) [.s (li
 ((k : Int) + 1)), .s (li ((↑(1 + sumBy sizeD (d.items.take k)) : Int) + (↑(sizeD (d.items.getD k default)) : Int)))]))))) (.o 0 [] [.s (li (↑(1 + sumBy sizeD (List.take k
 d.items)) : Int))])) (by
 intro k h; try dsimp only [Yd3, Ydb, Z2n] at h ⊢
 have g2 := @Yew _ sizeD d.items (d.items.getD k default)
 have g3 := @Ygx _ _ sizeD d.items k
 have g4 := Yg2 sizeD d.items (k + 1)
 have g6 := Yhz d
 have g7 : d.items.length <= k -> d.items.take k = d.items := fun h => List.take_of_length_le h
 with_reducible repeat' (first | apply And.intro | exact zR | exact ih | (intro) | apply ih)
 all_goals ((try simp only [std, inj] at *); with_reducible and_intros)
 all_goals try with_reducible first | apply ih
 all_goals try first | exact z | grind [Yd6, Yd7, Yd8, Yd4])
theorem Zba (d : Datum) (h : sizeD d <= 2147483647) (ih : ∀ z ∈ d.items, ∀ (h : sizeD z <= 2147483647), Z10 z)  : Z10 d := Yde Tryz.call208 Tryz.func208 (.z Ydd
 d.items (.l (Z2n d) (Z91 d h ih) [] [.s (li 0), .s (li 1)] 0 (.t (.s (li (↑(1 + sumBy sizeD d.items) : Int))) .q))) (by
 dsimp only [Yd3, Z10, Ydb, Z2n]
 have g6 := Yhz d
 have g7 : sumBy sizeD (d.items.take 0) = 0 := rfl
 with_reducible repeat' (first | apply And.intro | exact zR | exact ih | (intro))
 all_goals ((try simp only [std, inj] at *); with_reducible and_intros)
 all_goals try with_reducible first | apply ih
 all_goals (try exact zG))
theorem Z63 (d : Datum) : ∀ (h : sizeD d <= 2147483647), Z10 d := Datum.ind (P := fun d => ∀ (h : sizeD d <= 2147483647), Z10 d) (fun d ih h => Zba d h ih) d
abbrev Z5s (L : List Datum) : Ct := ⟨161, [], [ll (L.map Ydd)], [], .sv (lb (Y16n L))⟩
def Z3j (L : List Datum) : Lp Nat := .mk 22 0 (fun x => [(3, hs x 1), (6, ll (L.map Ydd)), (7, li (↑(L.map Ydd).length : Int)), (8, hs x 0)]) (fun x => [])
 (fun k => [.s (li (k : Int)), .s (li (↑(sumBy sizeD (L.take k)) : Int))]) (fun k => k <= L.length /\ L.length <= 9223372036854775807 /\ L.length <= 1000000 /\ (L.take k).all
 Yjt = true /\ (↑(sumBy sizeD (L.take k)) : Int) <= 600 * (k : Int)) (fun k => L.length - k) [.mk (L.all Yjt = true) (.exit 0) (fun x => [(3, hs x 0)]) (fun x => []) [.s
 (li (↑(sumBy sizeD L) : Int))], .mk (L.all Yjt = false) .ret (fun x => [(2, hs x 0)]) (fun x => []) [.s (lb false)]]
theorem Zaf (L : List Datum) (h : L.length <= 1000000) : Lp.Sem Tryz.prog (Ydg Tryz.f161 0) (Z3j L) := Ydr (fun k => .i ((k : Int) < (↑(L.map Ydd).length
 : Int)) (.x (k : Int) (L.map Ydd) (Yf8 (L.getD k default)) (.c [.rd] (Za2 (L.getD k default)) (.b (!Yjt (L.getD k default)) (.o 1 [] [.s (lb false)]) (.d
 [.rd] (Z10 (L.getD k default)) (.r ((↑(sumBy sizeD (L.take k)) : Int) + (↑(sizeD (L.getD k default)) : Int)) (.r ((k : Int) + 1) (.g [] (k + 1) [.s (li ((k : Int) +
 1)), .s (li ((↑(sumBy sizeD (L.take k)) : Int) + (↑(sizeD (L.getD k default)) : Int)))]))))))) (.o 0 [] [.s (li (↑(sumBy sizeD (L.take k)) : Int))])) (by
 intro k h; try dsimp only [Yd3, Ydb, Z3j] at h ⊢
 have g3 := @Ygx _ _ sizeD L k
 have g4 : Yjt (L.getD k default) = true -> sizeD (L.getD k default) <= 600 := fun h => by simp only [Yjt, Bool.and_eq_true, decide_eq_true_eq] at h; exact h.1.1
 with_reducible repeat' (first | apply And.intro | exact zR | (intro) | apply Z63)
 all_goals ((try simp only [std, inj] at *); with_reducible and_intros)
 all_goals try with_reducible first | apply Z63
 all_goals try first | exact z | grind [Ydn, Yd7, Yd8, Yd4])
theorem Z4w (L : List Datum) (h : L.length <= 1000000)  : Z5s L := Yde Tryz.call161 Tryz.func161 (.z Ydd L (.l (Z3j L) (Zaf L h) [] [.s (li 0), .s (li 0)]
 0 (.t (.s (lb (decide ((↑(sumBy sizeD L) : Int) <= 600)))) (.t (.s (lb false)) .q)))) (by
 dsimp only [Yd3, Z5s, Ydb, Z3j]
 with_reducible repeat' (first | apply And.intro | exact zR | (intro) | apply Z63)
 all_goals ((try simp only [std, inj] at *); with_reducible and_intros)
 all_goals try with_reducible first | apply Z63
 all_goals try first | exact z | grind [Y16n, sumBy, Yd7, Yd8, Yd4])
abbrev Z70 (L : List Datum) (s : ByteArray) : Ct := ⟨80, [], [ls s], [.arr true 4 (L.map Ydd)], .tup [.one (.ref 0), lb true]⟩
def Z33 (L : List Datum) (s : ByteArray) : Lp Nat := .mk 49 0 (fun x => [(4, .one (.ptr 0 0)), (5, .one (.ref 1))]) (fun x => [.box [vS s, ha x 0, vB false], ho x
 1]) (fun k => [.a (vI (↑(sk s (atR (L.getD k default) (enP (L.take k) s 0))) : Int)), .o (.arr true 4 ((L.take k).map Ydd))]) (fun k => k <= L.length /\ L.length
 <= 9223372036854775807 /\ Yk0 L s = true /\ L.length <= 600) (fun k => L.length - k) [.mk True (.exit 0) (fun x => [(4, .one (.ptr 0 0)), (5, .one (.ref 1))]) (fun x =>
 [.box [vS s, ha x 0, vB false], ho x 1]) [.a (vI (s.size : Int)), .o (.arr true 4 (L.map Ydd))]]
theorem Z9n (L : List Datum) (s : ByteArray) (h : Yk0 L s = true) : Lp.Sem Tryz.prog (Ydg Tryz.f80 0) (Z33 L s) := Ydr (fun k => .w (.draw []) (.y true (.h
 (s.data.toList.length <= 9223372036854775807) (.i ((↑(sk s (atR (L.getD k default) (enP (L.take k) s 0))) : Int) < (s.data.toList.length : Int)) (.d [.ptr] (Zh s (enP
 (L.take k) s 0) (L.getD k default)) (.p ((((L.take k).map Ydd).length + 1) * 56 <= 140737488355328) (.d [.ptr] (Z1i s (enR (L.getD k default) s (enP
 (L.take k) s 0)) false) (.g [0, 5] (k + 1) [.a (vI (↑(sk s (enR (L.getD k default) s (enP (L.take k) s 0))) : Int)), .o (.arr true 4 ((L.take k).map Ydd
 ++ [Yf8 (L.getD k default)]))])))) (.o 0 [0, 1] [.a (vI (↑(sk s (atR (L.getD k default) (enP (L.take k) s 0))) : Int)), .o (.arr true 4 ((List.take k
 L).map Ydd))]))))) (by
 intro k h; try dsimp only [Yd3, Ydb, Z33] at h ⊢
 have g1 := @Yte L s k
 have g0 := @Y1bg L s (k + 1)
 have g00 := @Y1bg L s k
 have g2 := @Ys6 L s
 have g3 := @Yew _ sizeD L (L.getD k default)
 with_reducible repeat' (first | apply And.intro | exact zR | (intro) | apply Zp | apply Z3z | apply Z4w)
 all_goals ((try simp only [std, inj] at *); with_reducible and_intros)
 all_goals try first | with_reducible (first | apply Zp | apply Z3z | apply Z4w) | (simp only [<- List.map_append]; with_reducible first | apply Zp | apply Z3z | apply Z4w)
 all_goals try first | exact z | grind [atR, Ydn, Yd6, Yd7, Yd8, Yd4])
theorem Z6k (L : List Datum) (s : ByteArray) (h : Yk0 L s = true)  : Z70 L s := Yde Tryz.call80 Tryz.func80 (.h (s.data.toList.length <= 9223372036854775807) (.i (15000
 < (s.data.toList.length : Int)) (.w (.ghost (.nilreg 2 true 4)) (.f [0] [.arr true 4 []] (.tup [.one (.ref 0), lb false]))) (.w (.bool false) (.d [.ptr] (Z1i s 0
 false) (.l (Z33 L s) (Z9n L s h) [0, 1] [.a (vI (↑(sk s 0) : Int)), .o (.arr true 4 [])] 0 (.t (.y false (.d [.rd] (Z5s L) (.b (!Y16n L) (.w (.ghost
 (.nilreg 2 true 4)) (.f [2] [.arr true 4 []] (.tup [.one (.ref 0), lb false]))) (.f [1] [.arr true 4 (L.map Ydd)] (.tup [.one (.ref 0), lb true])))))
 .q)))))) (by
 dsimp only [Yd3, Z70, Ydb, Z33]
 have g1 := @Ys6 L s
 have g2 := @Y10x L s
 have g3 := @Y1cz L s
 with_reducible repeat' (first | apply And.intro | exact zR | (intro) | apply Zp | apply Z3z | apply Z4w)
 all_goals ((try simp only [std, inj] at *); with_reducible and_intros)
 all_goals try with_reducible first | apply Zp | apply Z3z | apply Z4w
 all_goals try first | exact z | grind [atR, Y16n, Yd7, Yd8, Yd4])
set_option maxHeartbeats 4000000
abbrev Z92  : Ct := ⟨30, [], [], [.arr true 1 (Yjd.map Yf5)], .sv (.one (.ref 0))⟩
theorem Zbb   : Z92 := Yde Tryz.call30 Tryz.func30 (.f [0] [.arr true 1 [[cS (ByteArray.mk #[(40 : UInt8), (120 : UInt8), (32 : UInt8), (121 : UInt8), (41 : UInt8)])], [cS
 (ByteArray.mk #[(40 : UInt8), (120 : UInt8), (32 : UInt8), (46 : UInt8), (46 : UInt8), (46 : UInt8), (41 : UInt8)])], [cS (ByteArray.mk #[(40 : UInt8), (40 : UInt8), (120 :
 UInt8), (32 : UInt8), (121 : UInt8), (41 : UInt8), (32 : UInt8), (46 : UInt8), (46 : UInt8), (46 : UInt8), (41 : UInt8)])], [cS (ByteArray.mk #[(40 : UInt8), (120 : UInt8), (32 :
 UInt8), (46 : UInt8), (46 : UInt8), (46 : UInt8), (32 : UInt8), (121 : UInt8), (41 : UInt8)])], [cS (ByteArray.mk #[(40 : UInt8), (40 : UInt8), (120 : UInt8), (32 : UInt8), (46 :
 UInt8), (46 : UInt8), (46 : UInt8), (41 : UInt8), (32 : UInt8), (46 : UInt8), (46 : UInt8), (46 : UInt8), (41 : UInt8)])], [cS (ByteArray.mk #[(40 : UInt8), (101 : UInt8), (108 :
 UInt8), (115 : UInt8), (101 : UInt8), (32 : UInt8), (120 : UInt8), (41 : UInt8)])], [cS (ByteArray.mk #[(95 : UInt8)])], [cS (ByteArray.mk #[(120 : UInt8)])], [cS (ByteArray.mk
 #[(40 : UInt8), (49 : UInt8), (32 : UInt8), (120 : UInt8), (41 : UInt8)])], [cS (ByteArray.mk #[(40 : UInt8), (120 : UInt8), (32 : UInt8), (120 : UInt8), (41 : UInt8)])], [cS
 (ByteArray.mk #[(40 : UInt8), (46 : UInt8), (46 : UInt8), (46 : UInt8), (32 : UInt8), (120 : UInt8), (41 : UInt8)])], [cS (ByteArray.mk #[(40 : UInt8), (120 : UInt8), (32 :
 UInt8), (46 : UInt8), (46 : UInt8), (46 : UInt8), (32 : UInt8), (121 : UInt8), (32 : UInt8), (46 : UInt8), (46 : UInt8), (46 : UInt8), (41 : UInt8)])], [cS (ByteArray.mk #[(40 :
 UInt8), (34 : UInt8), (97 : UInt8), (34 : UInt8), (32 : UInt8), (40 : UInt8), (120 : UInt8), (41 : UInt8), (32 : UInt8), (46 : UInt8), (46 : UInt8), (46 : UInt8), (41 : UInt8)])],
 [cS (ByteArray.mk #[(40 : UInt8), (41 : UInt8)])], [cS (ByteArray.mk #[(40 : UInt8), (40 : UInt8), (40 : UInt8), (40 : UInt8), (120 : UInt8), (32 : UInt8), (46 : UInt8), (46 :
 UInt8), (46 : UInt8), (41 : UInt8), (32 : UInt8), (46 : UInt8), (46 : UInt8), (46 : UInt8), (41 : UInt8), (32 : UInt8), (46 : UInt8), (46 : UInt8), (46 : UInt8), (41 : UInt8), (32
 : UInt8), (46 : UInt8), (46 : UInt8), (46 : UInt8), (41 : UInt8)])]]] (.sv (.one (.ref 0)))) (by
 dsimp only [Yd3, Z92]
 with_reducible repeat' (first | apply And.intro | exact zR | (intro))
 all_goals ((try simp only [std, inj] at *); with_reducible and_intros)
 all_goals (try exact zG)
 all_goals rfl)
abbrev Z93 (i : Nat) : Ct := ⟨80, [], [ls (Yjd.getD i default)], [.arr true 4 ((Yeh (Ygo i)).map Ydd)], .tup [.one (.ref 0), lb true]⟩
theorem Zbc (i : Nat) (h : i < 15) : OK (Z93 i) := Z6k _ _ (rd1 (Y1jg i h))
abbrev Z57 (i : Nat) : Ct := ⟨28, [], [ls (Yjd.getD i default)], Yg5 (un (Ygo i)), .sv (Yg6 (un (Ygo i)) 0)⟩
theorem Z94 (i : Nat) (h : i < 15)  : Z57 i := Yde Tryz.call28 Tryz.func28 (.d [.rd] (Z93 i) (.z Ydd (Yeh (Ygo i)) (.i ((↑((Yeh (Ygo i)).map Ydd).length
 : Int) = 0) (.w (.ghost (.nilbox 0 3 true 1)) (.w (.ghost (.nilbox 0 4 true 5)) (.f [2, 3] [.arr true 1 [], .arr true 5 []] (.sv (.agg [vI 0, vI 0, vS (ByteArray.mk #[]),
 .ref 0, .ref 1]))))) (.p ((0 : Int) <= 0 /\ 0 < ((Yeh (Ygo i)).map Ydd).length) (.w (.cells (Yf8 ((Yeh (Ygo i)).getD 0 default))) (.p (((Yeh
 (Ygo i)).map Ydd)[0]? = some (Yf8 ((Yeh (Ygo i)).getD 0 default))) (.d [.rd] (Zo ((Yeh (Ygo i)).getD 0 default)) (.f [2, 3] [.arr true 1 ((Ye7 ((Yeh (Ygo
 i)).getD 0 default)).scopes.map Yd2), .arr true 5 ((Ye7 ((Yeh (Ygo i)).getD 0 default)).items.map Ycz)] (.sv (.agg [vI (Ye7 ((Yeh (Ygo i)).getD 0 default)).kind, vI
 (Ye7 ((Yeh (Ygo i)).getD 0 default)).number, vS (Ye7 ((Yeh (Ygo i)).getD 0 default)).text, .ref 0, .ref 1])))))))))) (by
 dsimp only [Yd3, Z57]
 have g1 := (Y1eu i h).1
 have g2 := Ytg (Ygo i)
 have g3 := Ypo (Ygo i)
 with_reducible repeat' (first | apply And.intro | exact zR | (intro) | apply Zbc | apply Z31)
 all_goals ((try simp only [std, inj] at *); with_reducible and_intros)
 all_goals try with_reducible first | apply Zbc | apply Z31
 all_goals (try exact zG))
abbrev Z95  : Ct := ⟨32, [], [], [.arr true 1 (Ylp.map Yf5)], .sv (.one (.ref 0))⟩
theorem Zbd   : Z95 := Yde Tryz.call32 Tryz.func32 (.f [0] [.arr true 1 [[cS (ByteArray.mk #[(40 : UInt8), (49 : UInt8), (32 : UInt8), (50 : UInt8), (41 : UInt8)])], [cS
 (ByteArray.mk #[(40 : UInt8), (41 : UInt8)])], [cS (ByteArray.mk #[(40 : UInt8), (40 : UInt8), (49 : UInt8), (32 : UInt8), (50 : UInt8), (41 : UInt8), (32 : UInt8), (40 : UInt8),
 (51 : UInt8), (32 : UInt8), (52 : UInt8), (41 : UInt8), (41 : UInt8)])], [cS (ByteArray.mk #[(40 : UInt8), (49 : UInt8), (32 : UInt8), (50 : UInt8), (32 : UInt8), (51 : UInt8),
 (41 : UInt8)])], [cS (ByteArray.mk #[(40 : UInt8), (40 : UInt8), (49 : UInt8), (32 : UInt8), (50 : UInt8), (41 : UInt8), (32 : UInt8), (40 : UInt8), (41 : UInt8), (32 : UInt8),
 (40 : UInt8), (51 : UInt8), (41 : UInt8), (41 : UInt8)])], [cS (ByteArray.mk #[(40 : UInt8), (101 : UInt8), (108 : UInt8), (115 : UInt8), (101 : UInt8), (32 : UInt8), (53 :
 UInt8), (41 : UInt8)])], [cS (ByteArray.mk #[(40 : UInt8), (49 : UInt8), (32 : UInt8), (120 : UInt8), (41 : UInt8)])], [cS (ByteArray.mk #[(53 : UInt8)])], [cS (ByteArray.mk
 #[(120 : UInt8)])], [cS (ByteArray.mk #[(40 : UInt8), (34 : UInt8), (97 : UInt8), (34 : UInt8), (32 : UInt8), (40 : UInt8), (49 : UInt8), (41 : UInt8), (32 : UInt8), (40 : UInt8),
 (50 : UInt8), (41 : UInt8), (41 : UInt8)])], [cS (ByteArray.mk #[(40 : UInt8), (120 : UInt8), (32 : UInt8), (121 : UInt8), (41 : UInt8)])], [cS (ByteArray.mk #[(40 : UInt8), (40 :
 UInt8), (97 : UInt8), (45 : UInt8), (98 : UInt8), (32 : UInt8), (49 : UInt8), (41 : UInt8), (32 : UInt8), (40 : UInt8), (102 : UInt8), (32 : UInt8), (50 : UInt8), (41 : UInt8),
 (41 : UInt8)])]]] (.sv (.one (.ref 0)))) (by
 dsimp only [Yd3, Z95]
 with_reducible repeat' (first | apply And.intro | exact zR | (intro))
 all_goals ((try simp only [std, inj] at *); with_reducible and_intros)
 all_goals (try exact zG)
 all_goals rfl)
abbrev Z96 (i : Nat) : Ct := ⟨80, [], [ls (Ylp.getD i default)], [.arr true 4 ((Yeh (Ygr i)).map Ydd)], .tup [.one (.ref 0), lb true]⟩
theorem Zbe (i : Nat) (h : i < 12) : OK (Z96 i) := Z6k _ _ (rd1 (Y1ip i h))
abbrev Z58 (i : Nat) : Ct := ⟨28, [], [ls (Ylp.getD i default)], Yg5 (un (Ygr i)), .sv (Yg6 (un (Ygr i)) 0)⟩
theorem Z97 (i : Nat) (h : i < 12)  : Z58 i := Yde Tryz.call28 Tryz.func28 (.d [.rd] (Z96 i) (.z Ydd (Yeh (Ygr i)) (.i ((↑((Yeh (Ygr i)).map Ydd).length
 : Int) = 0) (.w (.ghost (.nilbox 0 3 true 1)) (.w (.ghost (.nilbox 0 4 true 5)) (.f [2, 3] [.arr true 1 [], .arr true 5 []] (.sv (.agg [vI 0, vI 0, vS (ByteArray.mk #[]),
 .ref 0, .ref 1]))))) (.p ((0 : Int) <= 0 /\ 0 < ((Yeh (Ygr i)).map Ydd).length) (.w (.cells (Yf8 ((Yeh (Ygr i)).getD 0 default))) (.p (((Yeh
 (Ygr i)).map Ydd)[0]? = some (Yf8 ((Yeh (Ygr i)).getD 0 default))) (.d [.rd] (Zo ((Yeh (Ygr i)).getD 0 default)) (.f [2, 3] [.arr true 1 ((Ye7 ((Yeh (Ygr
 i)).getD 0 default)).scopes.map Yd2), .arr true 5 ((Ye7 ((Yeh (Ygr i)).getD 0 default)).items.map Ycz)] (.sv (.agg [vI (Ye7 ((Yeh (Ygr i)).getD 0 default)).kind, vI
 (Ye7 ((Yeh (Ygr i)).getD 0 default)).number, vS (Ye7 ((Yeh (Ygr i)).getD 0 default)).text, .ref 0, .ref 1])))))))))) (by
 dsimp only [Yd3, Z58]
 have g1 := (Y1eh i h).1
 have g2 := Ytg (Ygr i)
 have g3 := Ypo (Ygr i)
 with_reducible repeat' (first | apply And.intro | exact zR | (intro) | apply Zbe | apply Z31)
 all_goals ((try simp only [std, inj] at *); with_reducible and_intros)
 all_goals try with_reducible first | apply Zbe | apply Z31
 all_goals (try exact zG))
abbrev Zc7 : Ct := ⟨80, [], [ls Yg3], [.arr true 4 ((Yeh (Ye0 Yg3)).map Ydd)], .tup [.one (.ref 0), lb true]⟩
theorem Z98 : OK Zc7 := Z6k _ _ (rd1 Y1hc)
abbrev Z99  : Ct := ⟨28, [], [ls Yg3], Yg5 (un (Ye0 Yg3)), .sv (Yg6 (un (Ye0 Yg3)) 0)⟩
theorem Zcw   : Z99 := Yde Tryz.call28 Tryz.func28 (.c [.rd] Z98 (.z Ydd (Yeh (Ye0 Yg3)) (.i (Int.ofNat ((Yeh (Ye0 Yg3)).map Ydd).length = 0) (.w (.ghost
 (.nilbox 0 3 true 1)) (.w (.ghost (.nilbox 0 4 true 5)) (.f [2, 3] [.arr true 1 [], .arr true 5 []] (.sv (.agg [vI 0, vI 0, vS (ByteArray.mk #[]), .ref 0, .ref 1])))))
 (.p ((0 : Int) <= 0 /\ 0 < ((Yeh (Ye0 Yg3)).map Ydd).length) (.w (.cells (Yf8 ((Yeh (Ye0 Yg3)).getD 0 default))) (.p (((Yeh (Ye0 Yg3)).map Ydd)[0]? =
 some (Yf8 ((Yeh (Ye0 Yg3)).getD 0 default))) (.d [.rd] (Zo ((Yeh (Ye0 Yg3)).getD 0 default)) (.f [2, 3] [.arr true 1 ((Ye7 ((Yeh (Ye0 Yg3)).getD
 0 default)).scopes.map Yd2), .arr true 5 ((Ye7 ((Yeh (Ye0 Yg3)).getD 0 default)).items.map Ycz)] (.sv (.agg [vI (Ye7 ((Yeh (Ye0 Yg3)).getD 0 default)).kind, vI
 (Ye7 ((Yeh (Ye0 Yg3)).getD 0 default)).number, vS (Ye7 ((Yeh (Ye0 Yg3)).getD 0 default)).text, .ref 0, .ref 1])))))))))) (by
 dsimp only [Yd3, Z99]
 have g1 : wD (Ye0 Yg3) <= 100 := by decide
 have g2 := Ytg (Ye0 Yg3)
 have g3 := Ypo (Ye0 Yg3)
 with_reducible repeat' (first | apply And.intro | exact zR | (intro) | apply Z98 | apply Z31)
 all_goals ((try simp only [std, inj] at *); with_reducible and_intros)
 all_goals try with_reducible first | apply Z98 | apply Z31
 all_goals (try exact zG))
abbrev Z7b (b : List UInt8) : Ct := ⟨6, [], [ll (b.map Ydi)], [.arr true 4 ((mpB b).map Yd1), .arr true 5 ((mpL b).map Ycz)] ++ (Yg5 (mpP b) ++ Yg5 (mpF b)), .tup [.one (.ref 0), .one (.ref 1), Yg6 (mpP b) 2, Yg6 (mpF b) 4]⟩
theorem Z71 (b : List UInt8) (h : b.length <= 1048576)  : Z7b b := Yde Tryz.call6 Tryz.func6 (let v8 := (beC (taX (Yn1 b)).snd 2); let v1 := (beC (beC v8 (Yjd.length : Int))
 8); let v2 := (un (Ygo (beX v8 (Yjd.length : Int)).toNat)); let v3 := ((taX (Yn1 b)).fst.map Yd1); let v4 := (beX (beC v8 (Yjd.length : Int)) (8 : Int) = 0); let
 v5 := (Z8 (beC v8 (Yjd.length : Int)) 8); let v6 := (un (Ygr (beX v1 (Ylp.length : Int)).toNat)); let v7 := (.tup [.one (.ref 0), .one (.ref 1), .agg [vI
 v2.kind, vI v2.number, vS v2.text, .ref 2, .ref 3], .agg [vI (ayX v1).fst.kind, vI (ayX v1).fst.number, vS (ayX v1).fst.text, .ref 4, .ref 5]]); let v9 := (.tup
 [.one (.ref 0), .one (.ref 1), .agg [vI v2.kind, vI v2.number, vS v2.text, .ref 2, .ref 3], .agg [vI v6.kind, vI v6.number, vS v6.text, .ref 4, .ref 5]]); .d
 [.rd] (Z6d b) (.d [.ptr] (Z7a (Yn1 b)) (.w (.bool false) (.d [.ptr, .rd] (Z8 (taX (Yn1 b)).snd 2) (.i (beX (taX (Yn1 b)).snd (2 : Int) = 0) (.c [.rd] Zcw (.p
 (80 <= 140737488355328) (.c [] Zbb (.d [.ptr, .own true 1] (Z5 v8 Yjd) (.d [.rd] (Z57 (beX v8 (Yjd.length : Int)).toNat) (.d [.ptr, .rd] v5 (.i v4 (.w (.draw [(4,
 [2]), (7, [0]), (8, [1])]) (.d [.ptr] (Z52 v1) (.f [4, 9, 11, 12, 17, 18] [.arr true 4 v3, .arr true 5 [Yda (un (Ye0 Yg3))], .arr true 1 (List.map Yd2
 v2.scopes), .arr true 5 (v2.items.map Ycz), .arr true 1 ((ayX v1).fst.scopes.map Yd2), .arr true 5 ((ayX v1).fst.items.map Ycz)] v7))) (.w (.draw
 [(5, [2, 16]), (9, [0]), (10, [1])]) (.c [] Zbd (.d [.ptr, .own true 1] (Z5 v1 Ylp) (.d [.rd] (Z58 (beX v1 (Ylp.length : Int)).toNat) (.f [4, 9, 11, 12, 32, 33]
 [.arr true 4 v3, .arr true 5 [Yda (un (Ye0 Yg3))], .arr true 1 (v2.scopes.map Yd2), .arr true 5 (v2.items.map Ycz), .arr true 1 (List.map Yd2
 v6.scopes), .arr true 5 (v6.items.map Ycz)] v9)))))))))))) (.c [] Zbb (.d [.ptr, .own true 1] (Z5 v8 Yjd) (.d [.rd] (Z57 (beX v8 (↑Yjd.length :
 Int)).toNat) (.d [.ptr, .rd] v5 (.i v4 (.w (.draw [(4, [2]), (7, [0]), (8, [1])]) (.d [.ptr] (Z52 v1) (.f [4, 5, 7, 8, 13, 14] [.arr true 4 v3, .arr true 5 [], .arr
 true 1 (v2.scopes.map Yd2), .arr true 5 (v2.items.map Ycz), .arr true 1 ((ayX v1).fst.scopes.map Yd2), .arr true 5 ((ayX
 v1).fst.items.map Ycz)] v7))) (.w (.draw [(5, [2, 12]), (9, [0]), (10, [1])]) (.c [] Zbd (.d [.ptr, .own true 1] (Z5 v1 Ylp) (.d [.rd] (Z58 (beX v1 (↑Ylp.length :
 Int)).toNat) (.f [4, 5, 7, 8, 28, 29] [.arr true 4 v3, .arr true 5 [], .arr true 1 (v2.scopes.map Yd2), .arr true 5 (v2.items.map Ycz), .arr true 1
 (v6.scopes.map Yd2), .arr true 5 (v6.items.map Ycz)] v9))))))))))))))) (by
 dsimp only [Yd3, Z7b]
 have o := Y1ee h
 have o0 := Yxk h
 have i1 := Y19s b
 have l1 := Yer (mp2 b) (n := 15) (by decide)
 have l2 := Yer (mp4 b) (n := 12) (by decide)
 have f1 := @Y1lr b
 have f2 := @Y1l0 b
 have f3 := @Y1ea b
 have f4 := @Y1es b
 have e1 : mpP b = un (Ygo (mpI b)) := rfl
 have e2 : mpB b = (taX (Yn1 b)).1 := rfl
 have pl : ((Yjd.length : Nat) : Int) = 15 := rfl
 have fl : ((Ylp.length : Nat) : Int) = 12 := rfl
 have i2 : (beX (mp4 b) 12).toNat < 12 := by omega
 have n1 : 0 < Yjd.length := by decide
 have n2 : 0 < Ylp.length := by decide
 simp only [mpI, mp4, mp3, mp2, mp1] at o l1 l2 i1 i2 f1 f2 f3 f4 e1
 simp only [pl, fl]
 with_reducible repeat' (first | apply And.intro | exact zR | (intro) | apply Z8g | apply Zab | apply Z3 | apply Za | apply Z94 | apply Z8z | apply Z97)
 all_goals ((try simp only [std, inj] at *); with_reducible and_intros)
 all_goals try first | with_reducible (first | apply Z8g | apply Zab | apply Z3 | apply Za | apply Z94 | apply Z8z | apply Z97) | (simp only [<- List.map_append]; with_reducible first | apply Z8g | apply Zab | apply Z3 | apply Za | apply Z94 | apply Z8z | apply Z97)
 all_goals first
  | exact True.intro | with_reducible rfl | with_reducible assumption | exact o.1 | exact o.2.1 | exact o.2.2.1 | exact o.2.2.2 | omega | decide
  | exact ⟨o.2.1, n1, by decide⟩ | exact ⟨o.2.2.2, n2, by decide⟩ | exact ⟨o.2.1, by decide⟩ | exact ⟨o.2.2.2, by decide⟩
  | (rw [e1]; done) | (rw [f3 (by assumption)]; done) | (rw [f4 (by assumption)]; done)
  | (rw [f1 (by assumption), f3 (by assumption), e1, e2]; simp only [List.map_cons, List.map_nil, Ym4]; rfl)
  | (rw [f2 (by assumption), f3 (by assumption), e1, e2]; rfl)
  | (rw [f1 (by assumption), f4 (by assumption), e1, e2]; simp only [List.map_cons, List.map_nil, Ym4]; rfl)
  | (rw [f2 (by assumption), f4 (by assumption), e1, e2]; rfl))
set_option maxHeartbeats 4000000
abbrev Z59 (L : List YB) : Ct := ⟨215, [], [ll (L.map Yd1)], [.arr true 4 (L.map Yd1)], .sv (.one (.ref 0))⟩
def Z34 (L : List YB) : Lp Nat := .mk 28 0 (fun x => [(3, .one (.ref 0)), (7, ll (L.map Yd1)), (8, li (↑(L.map Yd1).length : Int)), (9, hs x
 0)]) (fun x => [ho x 1]) (fun k => [.s (li (k : Int)), .o (.arr true 4 ((L.take k).map Yd1))]) (fun k => k <= L.length /\ L.length <= 9223372036854775807) (fun k =>
 L.length - k) [.mk True (.exit 0) (fun x => [(3, .one (.ref 0))]) (fun x => [ho x 0]) [.o (.arr true 4 (L.map Yd1))]]
theorem Z9o (L : List YB) (h : L.length <= 1048577 /\ sumBy wB L <= 1048577) : Lp.Sem Tryz.prog (Ydg Tryz.f215 0) (Z34 L) := Ydr (fun k => .i ((k : Int) <
 (↑(L.map Yd1).length : Int)) (.x (k : Int) (L.map Yd1) (Ydq (L.getD k default)) (.w (.draw [(11, [6]), (12, [0, 18])]) (.d [.rd] (Z47 (L.getD k
 default).scopes) (.p ((((L.take k).map Yd1).length + 1) * 56 <= 140737488355328) (.r ((k : Int) + 1) (.g [19] (k + 1) [.s (li ((k : Int) + 1)), .o (.arr true 4
 ((L.take k).map Yd1 ++ [Ydq (L.getD k default)]))])))))) (.o 0 [0] [.o (.arr true 4 ((L.take k).map Yd1))])) (by
 intro k h; try dsimp only [Yd3, Ydb, Z34] at h ⊢
 have g2 := @Yew _ wB L (L.getD k default)
 have g3 := Ypn (L.getD k default)
 with_reducible repeat' (first | apply And.intro | exact zR | (intro) | apply Z17)
 all_goals ((try simp only [std, inj] at *); with_reducible and_intros)
 all_goals try first | with_reducible (first | apply Z17) | (simp only [<- List.map_append]; with_reducible first | apply Z17)
 all_goals try first | exact z | grind [Ydn, Yd7, Yd8, Yd4, Yd6])
theorem Z2u (L : List YB) (h : L.length <= 1048577 /\ sumBy wB L <= 1048577)  : Z59 L := Yde Tryz.call215 Tryz.func215 (.w (.bool false) (.z Yd1 L (.l
 (Z34 L) (Z9o L h) [0] [.s (li 0), .o (.arr true 4 [])] 0 (.t (.f [0] [.arr true 4 (L.map Yd1)] (.sv (.one (.ref 0)))) .q)))) (by
 dsimp only [Yd3, Z59, Ydb, Z34]
 with_reducible repeat' (first | apply And.intro | exact zR | (intro) | apply Z17)
 all_goals ((try simp only [std, inj] at *); with_reducible and_intros)
 all_goals try with_reducible first | apply Z17
 all_goals (try exact zG))
abbrev Z4r (b : YB) : Ct := ⟨212, [], [Yml b], Y10n b, .sv (Y12a b 0)⟩
theorem Z28 (b : YB) (h : wB b <= 1048577)  : Z4r b := Yde Tryz.call212 Tryz.func212 (.d [.rd] (Z1p b.scopes) (.f [2] [.arr true 1 (List.map Yd2
 b.scopes)] (.sv (.agg [vS b.text, .ref 0, vI b.kind, vI b.number])))) (by
 dsimp only [Yd3, Z4r]
 have g3 := Ypn b
 with_reducible repeat' (first | apply And.intro | exact zR | (intro) | apply Z6)
 all_goals ((try simp only [std, inj] at *); with_reducible and_intros)
 all_goals try with_reducible first | apply Z6
 all_goals (try exact zG))
end Go.Proofs.YtclpofblehlojaaGreat
end
