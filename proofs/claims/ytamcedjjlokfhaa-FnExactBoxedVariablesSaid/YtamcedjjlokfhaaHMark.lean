/- The contracts of the functions with which the laws mark what they hold. No condition. -/
import Derived.Test.YtamcedjjlokfhaaMarkL
import Derived.Test.YtamcedjjlokfhaaRows
namespace Go.Proofs.Ytamcedjjlokfhaa
open Go Go.Proofs.Ytamcedjjlokfhaa.Ab
set_option linter.unusedVariables false
set_option linter.unusedSimpArgs false
set_option maxHeartbeats 4000000

abbrev P_c_markIntS (L : List Int) (n : Int) : Prop := CallOK Try.prog 30 [.arr true 1 (L.map intC)] [.one (.ref 0), li n] [.arr true 1 ((seqM mkI cOne L n).map intC)] (.sv (li (n + L.length)))
def Tc_markIntSLa (L : List Int) (n : Int) (x0 : SV) (x1 : SV) (x2 : Ob) : St := St.mk (regsOf 19 [(0, AV.sv (SV.one (AC.ref 0))), (1, AV.sv x1), (5, AV.sv x0)]) [x2] 1 
def Lc_markIntSLa (L : List Int) (n : Int) (k : Nat) : St := Tc_markIntSLa L n (li (↑k : Int)) (li (n + (↑k : Int))) (Ob.arr true 1 (List.map intC (mkTo mkI cOne L n k))) 
def Ic_markIntSLa (L : List Int) (n : Int) : Nat → St → Prop := Head (Lc_markIntSLa L n) (fun k => k ≤ List.length L ∧ List.length L ≤ 9223372036854775807) fun k => List.length L -
 k 
def W0c_markIntSLa (L : List Int) (n : Int) (x0 : SV) (x1 : Ob) : St := St.mk (regsOf 19 [(1, AV.sv x0)]) [x1] 1 
def Yc_markIntSLa (L : List Int) (n : Int) : List (Prop × AEx × St) := [(True, AEx.exit 0, W0c_markIntSLa L n (li (n + (↑(List.length L) : Int))) (Ob.arr true 1 (List.map intC
 (seqM mkI cOne L n))))]
theorem Hc_markIntSLa {L : List Int} {n : Int} {k : Nat} {m : Nat} (h : (fun k => k ≤ List.length L ∧ List.length L ≤ 9223372036854775807) k) (hm : (fun k => List.length L - k) k =
 m) : Ic_markIntSLa L n m (Lc_markIntSLa L n k) := hm ▸ Head.mk h
theorem Ec_markIntSLa {L : List Int} {n : Int} {k : Nat} {x0 : SV} {x1 : SV} {x2 : Ob} (h0 : x0 = (li (↑k : Int))) (h1 : x1 = (li (n + (↑k : Int)))) (h2 : x2 = (Ob.arr true 1
 (List.map intC (mkTo mkI cOne L n k)))) : Tc_markIntSLa L n x0 x1 x2 = Lc_markIntSLa L n k := by
  rw [h0, h1, h2]
  rfl
theorem EW0c_markIntSLa {L : List Int} {n : Int} {x0 y0 : SV} {x1 y1 : Ob} (h0 : x0 = y0) (h1 : x1 = y1) : W0c_markIntSLa L n x0 x1 = W0c_markIntSLa L n y0 y1 := by rw [h0, h1]
theorem run_c_markIntSLa (L : List Int) (n : Int) (k : Nat) : aexec Try.prog (loopAt Try.f30 0) (Lc_markIntSLa L n k) [Orc.br [Orc.cells (intC (List.getD L (Int.toNat (↑k : Int))
 default)), Orc.ghost (Ghost.sel [0] [0, 1, 5]), Orc.goto (List.length L - (k + 1)) (Lc_markIntSLa L n (k + 1))] [Orc.ghost (Ghost.sel [0] [1]), Orc.out 0]] (loopK (Ic_markIntSLa L
 n) (Yc_markIntSLa L n) (List.length L - k)) = (List.length (List.map intC (mkTo mkI cOne L n k)) ≤ 9223372036854775807 → (decide ((↑k : Int) < (↑(List.length (List.map intC (mkTo
 mkI cOne L n k))) : Int)) = true → (0 ≤ (↑k : Int) ∧ Int.toNat (↑k : Int) < List.length (List.map intC (mkTo mkI cOne L n k))) ∧ (List.map intC (mkTo mkI cOne L n k))[Int.toNat
 (↑k : Int)]? = some [cI (List.getD L (Int.toNat (↑k : Int)) 0)] ∧ rng IntKind.i64 (n + (↑k : Int) + 1) ∧ rng IntKind.i64 ((↑k : Int) + 1) ∧ List.length L - (k + 1) < List.length L
 - k ∧ Tc_markIntSLa L n (li ((↑k : Int) + 1)) (li (n + (↑k : Int) + 1)) (Ob.arr true 1 (List.set (List.map intC (mkTo mkI cOne L n k)) (Int.toNat (↑k : Int)) [cI (n + (↑k :
 Int))])) = Lc_markIntSLa L n (k + 1) ∧ Ic_markIntSLa L n (List.length L - (k + 1)) (Lc_markIntSLa L n (k + 1))) ∧ (decide ((↑k : Int) < (↑(List.length (List.map intC (mkTo mkI
 cOne L n k))) : Int)) = false → True ∧ W0c_markIntSLa L n (li (n + (↑k : Int))) (Ob.arr true 1 (List.map intC (mkTo mkI cOne L n k))) = W0c_markIntSLa L n (li (n + (↑(List.length
 L) : Int))) (Ob.arr true 1 (List.map intC (seqM mkI cOne L n))))) := by kernel_rfl
theorem Sc_markIntSLa (L : List Int) (n : Int) (h0 : 0 ≤ n) (h : n + (↑(List.length L) : Int) ≤ 2147483647)  : LoopSem Try.prog (loopAt Try.f30 0) (Ic_markIntSLa L n)
 (Yc_markIntSLa L n) := by
  refine LoopSem.ofHead wide fun k h => ⟨_, _, run_c_markIntSLa L n k, ?_⟩
  with_reducible repeat' (first | apply And.intro | exact flatI | exact flatS | exact rowLens | (intro; skip) | apply obsN | apply obsC | apply obA | apply obM | apply obB | apply svA | apply tupA | apply lcA | apply lcS | apply svC | apply liC | apply lbC | apply lsC | apply vIc | apply vBc | apply vSc | apply vLc | apply mapC | apply Hc_markIntSLa | apply Ec_markIntSLa | apply EW0c_markIntSLa)
  all_goals (try simp only [std, stdM] at *)
  all_goals (try (first | with_reducible rfl | omega | assumption | (refine (decide_eq_true ?_).symm; assumption) | (refine (decide_eq_false ?_).symm; assumption) | (refine rowGet ?_; (first | omega | (simp only [std, stdM]; omega) | grind)) | (refine getC ?_ rfl; (first | omega | (simp only [std, stdM]; omega) | grind)) | (refine fill_step ?_ ?_; (first | omega | (simp only [std, stdM]; omega) | grind); (first | rfl | exact (Row.eq _).trans rfl)) | (refine fill_init ?_; (first | rfl | exact (Row.eq _).trans rfl)) | (refine set_row ?_; (simp only [List.length_map, List.length_set, mkTo_len]; omega)) | (refine mkToRow ?_; (first | omega | (simp only [std, stdM]; omega) | grind)) | (refine mkTo_row ?_ rfl; (first | omega | (simp only [std, stdM]; omega) | grind)) | (refine mkTo_step ?_ ?_; (first | omega | (simp only [std, stdM]; omega) | grind); (first | grind [mkTo_all, mkI, cOne_take, intC, mkTo_get, snocI, snocS, rowSnoc])) | grind [mkTo_all, mkI, cOne_take, intC, mkTo_get, snocI, snocS, rowSnoc]))
theorem run_c_markIntS (L : List Int) (n : Int) : aexec Try.prog (Option.getD (Func.body Try.f30) Code.skip) (entry [Ob.arr true 1 (List.map intC L)] [SV.one (AC.ref 0), li n] 19)
 [Orc.ghost (Ghost.sel [0] [0, 1, 5]), Orc.loop (List.length L - 0) (Lc_markIntSLa L n 0) (Ic_markIntSLa L n) [(True, AEx.exit 0, W0c_markIntSLa L n (li (n + (↑(List.length L) :
 Int))) (Ob.arr true 1 (List.map intC (seqM mkI cOne L n))), [Orc.fin []])]] (finK Try.prog [ResultVar.tmp 4] [Ob.arr true 1 (List.map intC (seqM mkI cOne L n))] (AV.sv (li (n +
 (↑(List.length L) : Int))))) = (Tc_markIntSLa L n (li 0) (li n) (Ob.arr true 1 (List.map intC L)) = Lc_markIntSLa L n 0 ∧ Ic_markIntSLa L n (List.length L - 0) (Lc_markIntSLa L n
 0) ∧ LoopSem Try.prog (loopAt Try.f30 0) (Ic_markIntSLa L n) (Yc_markIntSLa L n) ∧ (True → ObsEq [Ob.arr true 1 (List.map intC (seqM mkI cOne L n))] [Ob.arr true 1 (List.map intC
 (seqM mkI cOne L n))] ∧ AV.sv (li (n + (↑(List.length L) : Int))) = AV.sv (li (n + (↑(List.length L) : Int)))) ∧ True) := by kernel_rfl
theorem c_markIntS (L : List Int) (n : Int) (h0 : 0 ≤ n) (h : n + L.length ≤ 2147483647)  : P_c_markIntS L n := by
  refine CallOK.ofRun wide (run_c_markIntS L n) Try.call30 Try.func30 rfl rfl rfl ?_
  with_reducible repeat' (first | apply And.intro | exact flatI | exact flatS | exact rowLens | (intro; skip) | apply obsN | apply obsC | apply obA | apply obM | apply obB | apply svA | apply tupA | apply lcA | apply lcS | apply svC | apply liC | apply lbC | apply lsC | apply vIc | apply vBc | apply vSc | apply vLc | apply mapC | apply Hc_markIntSLa | apply Ec_markIntSLa | apply Sc_markIntSLa | apply EW0c_markIntSLa)
  all_goals (try simp only [std, stdM] at *)
  all_goals (try (first | with_reducible rfl | omega | assumption | (refine (decide_eq_true ?_).symm; assumption) | (refine (decide_eq_false ?_).symm; assumption) | (refine rowGet ?_; (first | omega | (simp only [std, stdM]; omega) | grind)) | (refine getC ?_ rfl; (first | omega | (simp only [std, stdM]; omega) | grind)) | (refine fill_step ?_ ?_; (first | omega | (simp only [std, stdM]; omega) | grind); (first | rfl | exact (Row.eq _).trans rfl)) | (refine fill_init ?_; (first | rfl | exact (Row.eq _).trans rfl)) | (refine set_row ?_; (simp only [List.length_map, List.length_set, mkTo_len]; omega)) | (refine mkToRow ?_; (first | omega | (simp only [std, stdM]; omega) | grind)) | (refine mkTo_row ?_ rfl; (first | omega | (simp only [std, stdM]; omega) | grind)) | (refine mkTo_step ?_ ?_; (first | omega | (simp only [std, stdM]; omega) | grind); (first | grind [mkTo_zero, snocI, snocS, rowSnoc])) | grind [mkTo_zero, snocI, snocS, rowSnoc]))

abbrev P_c_markText (n : Int) : Prop := CallOK Try.prog 127 [] [li n] [] (.sv (ls (mText n)))
def Tc_markTextLa (n : Int) (x0 : SV) (x1 : SV) : St := St.mk (regsOf 20 [(0, AV.sv x0), (3, AV.sv x1)]) [] 0 
def Lc_markTextLa (n : Int) (k : Int × List UInt8) : St := Tc_markTextLa n (li (Prod.fst k)) (ls (mkS (Prod.snd k))) 
def Ic_markTextLa (n : Int) : Nat → St → Prop := Head (Lc_markTextLa n) (fun k => 0 ≤ Prod.fst k ∧ Prod.fst k ≤ n ∧ digs (Int.toNat (Prod.fst k)) ++ Prod.snd k = digs (Int.toNat
 n)) fun k => Int.toNat (Prod.fst k) 
def W0c_markTextLa (n : Int) (x0 : SV) : St := St.mk (regsOf 20 [(3, AV.sv x0)]) [] 0 
def Yc_markTextLa (n : Int) : List (Prop × AEx × St) := [(True, AEx.exit 0, W0c_markTextLa n (ls (mkS (digs (Int.toNat n)))))]
theorem Hc_markTextLa {n : Int} {k : Int × List UInt8} {m : Nat} (h : (fun k => 0 ≤ Prod.fst k ∧ Prod.fst k ≤ n ∧ digs (Int.toNat (Prod.fst k)) ++ Prod.snd k = digs (Int.toNat n))
 k) (hm : (fun k => Int.toNat (Prod.fst k)) k = m) : Ic_markTextLa n m (Lc_markTextLa n k) := hm ▸ Head.mk h
theorem Ec_markTextLa {n : Int} {k : Int × List UInt8} {x0 : SV} {x1 : SV} (h0 : x0 = (li (Prod.fst k))) (h1 : x1 = (ls (mkS (Prod.snd k)))) : Tc_markTextLa n x0 x1 = Lc_markTextLa
 n k := by
  rw [h0, h1]
  rfl
theorem EW0c_markTextLa {n : Int} {x0 y0 : SV} (h0 : x0 = y0) : W0c_markTextLa n x0 = W0c_markTextLa n y0 := by rw [h0]
theorem run_c_markTextLa (n : Int) (k : Int × List UInt8) : aexec Try.prog (loopAt Try.f127 0) (Lc_markTextLa n k) [Orc.br [Orc.bytes [UInt8.ofNat (Int.toNat (48 + Int.tmod
 (Prod.fst k) 10))], Orc.ghost (Ghost.sel [] [0, 3]), Orc.goto (Int.toNat (Int.tdiv (Prod.fst k) 10)) (Lc_markTextLa n (Int.tdiv (Prod.fst k) 10, [UInt8.ofNat (Int.toNat (48 +
 Int.tmod (Prod.fst k) 10))] ++ Prod.snd k))] [Orc.ghost (Ghost.sel [] [3]), Orc.out 0]] (loopK (Ic_markTextLa n) (Yc_markTextLa n) (Int.toNat (Prod.fst k))) = ((decide (0 <
 Prod.fst k) = true → (10 : Int) ≠ 0 ∧ rng IntKind.i64 (48 + Int.tmod (Prod.fst k) 10) ∧ rng IntKind.u8 (48 + Int.tmod (Prod.fst k) 10) ∧ [[Cell.lit (Value.int IntKind.u8 (48 +
 Int.tmod (Prod.fst k) 10))]] = [[Cell.lit (Value.int IntKind.u8 (↑(UInt8.toNat (UInt8.ofNat (Int.toNat (48 + Int.tmod (Prod.fst k) 10)))) : Int))]] ∧ 1 + List.length (Prod.snd k)
 ≤ 9223372036854775807 ∧ (10 : Int) ≠ 0 ∧ rng IntKind.i64 (Int.tdiv (Prod.fst k) 10) ∧ Int.toNat (Int.tdiv (Prod.fst k) 10) < Int.toNat (Prod.fst k) ∧ Tc_markTextLa n (li (Int.tdiv
 (Prod.fst k) 10)) (ls (ByteArray.mk (List.toArray ([UInt8.ofNat (Int.toNat (48 + Int.tmod (Prod.fst k) 10))] ++ Prod.snd k)))) = Lc_markTextLa n (Int.tdiv (Prod.fst k) 10,
 [UInt8.ofNat (Int.toNat (48 + Int.tmod (Prod.fst k) 10))] ++ Prod.snd k) ∧ Ic_markTextLa n (Int.toNat (Int.tdiv (Prod.fst k) 10)) (Lc_markTextLa n (Int.tdiv (Prod.fst k) 10,
 [UInt8.ofNat (Int.toNat (48 + Int.tmod (Prod.fst k) 10))] ++ Prod.snd k))) ∧ (decide (0 < Prod.fst k) = false → True ∧ W0c_markTextLa n (ls (mkS (Prod.snd k))) = W0c_markTextLa n
 (ls (mkS (digs (Int.toNat n)))))) := by kernel_rfl
theorem Sc_markTextLa (n : Int) (h0 : 0 ≤ n) (h : n ≤ 2147483647)  : LoopSem Try.prog (loopAt Try.f127 0) (Ic_markTextLa n) (Yc_markTextLa n) := by
  refine LoopSem.ofHead wide fun k h => ⟨_, _, run_c_markTextLa n k, ?_⟩
  obtain ⟨i, l⟩ := k
  simp only at *
  obtain ⟨g1, g2, g3⟩ := h
  have g4 : l.length ≤ 2147483647 := by
    have := congrArg List.length g3
    have := digs_len n.toNat
    simp only [List.length_append] at *
    omega
  simp only [Int.tmod_eq_emod_of_nonneg g1, Int.tdiv_eq_ediv_of_nonneg g1]
  refine ⟨fun g => ?_, fun g => ?_⟩
  · have g : 0 < i := of_decide_eq_true g
    refine ⟨by decide, by rw [rng64]; omega, by rw [rngu8]; omega, by rw [u8_int (by omega) (by omega)], by omega, by decide, by rw [rng64]; omega, by omega, ?_, ?_⟩
    · apply Ec_markTextLa <;> rfl
    · apply Hc_markTextLa
      · exact ⟨by show 0 ≤ i / 10; omega, by show i / 10 ≤ n; omega, by show digs (i / 10).toNat ++ ([_] ++ l) = _; rw [← g3, digs_int g, List.append_assoc]⟩
      · rfl
  · have g : ¬ 0 < i := of_decide_eq_false g
    refine ⟨trivial, ?_⟩
    have e : i = 0 := by omega
    subst e
    rw [show digs (0 : Int).toNat = [] from digs_zero] at g3
    rw [← g3]; rfl
theorem run_c_markText (n : Int) : aexec Try.prog (Option.getD (Func.body Try.f127) Code.skip) (entry [] [li n] 20) [Orc.br [Orc.fin []] [Orc.ghost (Ghost.sel [] [0, 3]), Orc.loop
 (Int.toNat n) (Lc_markTextLa n (n, [])) (Ic_markTextLa n) [(True, AEx.exit 0, W0c_markTextLa n (ls (mkS (digs (Int.toNat n)))), [Orc.fin []])]]] (finK Try.prog [ResultVar.tmp 2]
 [] (AV.sv (ls (mText n)))) = ((decide (n ≤ 0) = true → ObsEq [] [] ∧ AV.sv (ls (ByteArray.mk #[(109 : UInt8), (48 : UInt8)])) = AV.sv (ls (mText n))) ∧ (decide (n ≤ 0) = false →
 Tc_markTextLa n (li n) (ls (ByteArray.mk #[])) = Lc_markTextLa n (n, []) ∧ Ic_markTextLa n (Int.toNat n) (Lc_markTextLa n (n, [])) ∧ LoopSem Try.prog (loopAt Try.f127 0)
 (Ic_markTextLa n) (Yc_markTextLa n) ∧ (True → 1 + List.length (digs (Int.toNat n)) ≤ 9223372036854775807 ∧ ObsEq [] [] ∧ AV.sv (ls (ByteArray.mk (List.toArray ([(109 : UInt8)] ++
 digs (Int.toNat n))))) = AV.sv (ls (mText n))) ∧ True)) := by kernel_rfl
theorem c_markText (n : Int) (h0 : 0 ≤ n) (h : n ≤ 2147483647)  : P_c_markText n := by
  refine CallOK.ofRun wide (run_c_markText n) Try.call127 Try.func127 rfl rfl rfl ?_
  have g := digs_len n.toNat
  simp only [mText]
  with_reducible repeat' (first | apply And.intro | exact flatI | exact flatS | exact rowLens | (intro; skip) | apply obsN | apply obsC | apply obA | apply obM | apply obB | apply svA | apply tupA | apply lcA | apply lcS | apply svC | apply liC | apply lbC | apply lsC | apply vIc | apply vBc | apply vSc | apply vLc | apply mapC | apply Hc_markTextLa | apply Ec_markTextLa | apply Sc_markTextLa | apply EW0c_markTextLa)
  all_goals (try simp only [std, stdM] at *)
  all_goals (try (first | with_reducible rfl | omega | assumption | (refine (decide_eq_true ?_).symm; assumption) | (refine (decide_eq_false ?_).symm; assumption) | (refine rowGet ?_; (first | omega | (simp only [std, stdM]; omega) | grind)) | (refine getC ?_ rfl; (first | omega | (simp only [std, stdM]; omega) | grind)) | (refine fill_step ?_ ?_; (first | omega | (simp only [std, stdM]; omega) | grind); (first | rfl | exact (Row.eq _).trans rfl)) | (refine fill_init ?_; (first | rfl | exact (Row.eq _).trans rfl)) | (refine set_row ?_; (simp only [List.length_map, List.length_set, mkTo_len]; omega)) | (refine mkToRow ?_; (first | omega | (simp only [std, stdM]; omega) | grind)) | (refine mkTo_row ?_ rfl; (first | omega | (simp only [std, stdM]; omega) | grind)) | (refine mkTo_step ?_ ?_; (first | omega | (simp only [std, stdM]; omega) | grind); (first | grind [mkS, snocI, snocS, rowSnoc])) | grind [mkS, snocI, snocS, rowSnoc]))

abbrev P_c_markStringS (L : List ByteArray) (n : Int) : Prop := CallOK Try.prog 157 [.arr true 1 (L.map strC)] [.one (.ref 0), li n] [.arr true 1 ((seqM mkT cOne L n).map strC)] (.sv (li (n + L.length)))
def Tc_markStringSLa (L : List ByteArray) (n : Int) (x0 : SV) (x1 : SV) (x2 : Ob) : St := St.mk (regsOf 20 [(0, AV.sv (SV.one (AC.ref 0))), (1, AV.sv x1), (5, AV.sv x0)]) [x2] 1 
def Lc_markStringSLa (L : List ByteArray) (n : Int) (k : Nat) : St := Tc_markStringSLa L n (li (↑k : Int)) (li (n + (↑k : Int))) (Ob.arr true 1 (List.map strC (mkTo mkT cOne L n
 k))) 
def Ic_markStringSLa (L : List ByteArray) (n : Int) : Nat → St → Prop := Head (Lc_markStringSLa L n) (fun k => k ≤ List.length L ∧ List.length L ≤ 9223372036854775807) fun k =>
 List.length L - k 
def W0c_markStringSLa (L : List ByteArray) (n : Int) (x0 : SV) (x1 : Ob) : St := St.mk (regsOf 20 [(1, AV.sv x0)]) [x1] 1 
def Yc_markStringSLa (L : List ByteArray) (n : Int) : List (Prop × AEx × St) := [(True, AEx.exit 0, W0c_markStringSLa L n (li (n + (↑(List.length L) : Int))) (Ob.arr true 1
 (List.map strC (seqM mkT cOne L n))))]
theorem Hc_markStringSLa {L : List ByteArray} {n : Int} {k : Nat} {m : Nat} (h : (fun k => k ≤ List.length L ∧ List.length L ≤ 9223372036854775807) k) (hm : (fun k => List.length L
 - k) k = m) : Ic_markStringSLa L n m (Lc_markStringSLa L n k) := hm ▸ Head.mk h
theorem Ec_markStringSLa {L : List ByteArray} {n : Int} {k : Nat} {x0 : SV} {x1 : SV} {x2 : Ob} (h0 : x0 = (li (↑k : Int))) (h1 : x1 = (li (n + (↑k : Int)))) (h2 : x2 = (Ob.arr
 true 1 (List.map strC (mkTo mkT cOne L n k)))) : Tc_markStringSLa L n x0 x1 x2 = Lc_markStringSLa L n k := by
  rw [h0, h1, h2]
  rfl
theorem EW0c_markStringSLa {L : List ByteArray} {n : Int} {x0 y0 : SV} {x1 y1 : Ob} (h0 : x0 = y0) (h1 : x1 = y1) : W0c_markStringSLa L n x0 x1 = W0c_markStringSLa L n y0 y1 := by
 rw [h0, h1]
theorem run_c_markStringSLa (L : List ByteArray) (n : Int) (k : Nat) : aexec Try.prog (loopAt Try.f157 0) (Lc_markStringSLa L n k) [Orc.br [Orc.call [Mode.rd] [] (AV.sv (ls (mText
 (n + (↑k : Int))))), Orc.cells (strC (List.getD L (Int.toNat (↑k : Int)) default)), Orc.ghost (Ghost.sel [0] [0, 1, 5]), Orc.goto (List.length L - (k + 1)) (Lc_markStringSLa L n
 (k + 1))] [Orc.ghost (Ghost.sel [0] [1]), Orc.out 0]] (loopK (Ic_markStringSLa L n) (Yc_markStringSLa L n) (List.length L - k)) = (List.length (List.map strC (mkTo mkT cOne L n
 k)) ≤ 9223372036854775807 → (decide ((↑k : Int) < (↑(List.length (List.map strC (mkTo mkT cOne L n k))) : Int)) = true → P_c_markText (n + (↑k : Int)) ∧ (0 ≤ (↑k : Int) ∧
 Int.toNat (↑k : Int) < List.length (List.map strC (mkTo mkT cOne L n k))) ∧ (List.map strC (mkTo mkT cOne L n k))[Int.toNat (↑k : Int)]? = some [cS (List.getD L (Int.toNat (↑k :
 Int)) default)] ∧ rng IntKind.i64 (n + (↑k : Int) + 1) ∧ rng IntKind.i64 ((↑k : Int) + 1) ∧ List.length L - (k + 1) < List.length L - k ∧ Tc_markStringSLa L n (li ((↑k : Int) +
 1)) (li (n + (↑k : Int) + 1)) (Ob.arr true 1 (List.set (List.map strC (mkTo mkT cOne L n k)) (Int.toNat (↑k : Int)) [cS (mText (n + (↑k : Int)))])) = Lc_markStringSLa L n (k + 1)
 ∧ Ic_markStringSLa L n (List.length L - (k + 1)) (Lc_markStringSLa L n (k + 1))) ∧ (decide ((↑k : Int) < (↑(List.length (List.map strC (mkTo mkT cOne L n k))) : Int)) = false →
 True ∧ W0c_markStringSLa L n (li (n + (↑k : Int))) (Ob.arr true 1 (List.map strC (mkTo mkT cOne L n k))) = W0c_markStringSLa L n (li (n + (↑(List.length L) : Int))) (Ob.arr true 1
 (List.map strC (seqM mkT cOne L n))))) := by kernel_rfl
theorem Sc_markStringSLa (L : List ByteArray) (n : Int) (h0 : 0 ≤ n) (h : n + (↑(List.length L) : Int) ≤ 2147483647)  : LoopSem Try.prog (loopAt Try.f157 0) (Ic_markStringSLa L n)
 (Yc_markStringSLa L n) := by
  refine LoopSem.ofHead wide fun k h => ⟨_, _, run_c_markStringSLa L n k, ?_⟩
  with_reducible repeat' (first | apply And.intro | exact flatI | exact flatS | exact rowLens | (intro; skip) | apply obsN | apply obsC | apply obA | apply obM | apply obB | apply svA | apply tupA | apply lcA | apply lcS | apply svC | apply liC | apply lbC | apply lsC | apply vIc | apply vBc | apply vSc | apply vLc | apply mapC | apply Hc_markStringSLa | apply Ec_markStringSLa | apply EW0c_markStringSLa | apply c_markText)
  all_goals (try simp only [std, stdM] at *)
  all_goals (try (first | with_reducible rfl | omega | assumption | (refine (decide_eq_true ?_).symm; assumption) | (refine (decide_eq_false ?_).symm; assumption) | (refine rowGet ?_; (first | omega | (simp only [std, stdM]; omega) | grind)) | (refine getC ?_ rfl; (first | omega | (simp only [std, stdM]; omega) | grind)) | (refine fill_step ?_ ?_; (first | omega | (simp only [std, stdM]; omega) | grind); (first | rfl | exact (Row.eq _).trans rfl)) | (refine fill_init ?_; (first | rfl | exact (Row.eq _).trans rfl)) | (refine set_row ?_; (simp only [List.length_map, List.length_set, mkTo_len]; omega)) | (refine mkToRow ?_; (first | omega | (simp only [std, stdM]; omega) | grind)) | (refine mkTo_row ?_ rfl; (first | omega | (simp only [std, stdM]; omega) | grind)) | (refine mkTo_step ?_ ?_; (first | omega | (simp only [std, stdM]; omega) | grind); (first | grind [mkTo_all, mkT, cOne_take, strC, mkTo_get, snocI, snocS, rowSnoc])) | grind [mkTo_all, mkT, cOne_take, strC, mkTo_get, snocI, snocS, rowSnoc]))
theorem run_c_markStringS (L : List ByteArray) (n : Int) : aexec Try.prog (Option.getD (Func.body Try.f157) Code.skip) (entry [Ob.arr true 1 (List.map strC L)] [SV.one (AC.ref 0),
 li n] 20) [Orc.ghost (Ghost.sel [0] [0, 1, 5]), Orc.loop (List.length L - 0) (Lc_markStringSLa L n 0) (Ic_markStringSLa L n) [(True, AEx.exit 0, W0c_markStringSLa L n (li (n +
 (↑(List.length L) : Int))) (Ob.arr true 1 (List.map strC (seqM mkT cOne L n))), [Orc.fin []])]] (finK Try.prog [ResultVar.tmp 4] [Ob.arr true 1 (List.map strC (seqM mkT cOne L
 n))] (AV.sv (li (n + (↑(List.length L) : Int))))) = (Tc_markStringSLa L n (li 0) (li n) (Ob.arr true 1 (List.map strC L)) = Lc_markStringSLa L n 0 ∧ Ic_markStringSLa L n
 (List.length L - 0) (Lc_markStringSLa L n 0) ∧ LoopSem Try.prog (loopAt Try.f157 0) (Ic_markStringSLa L n) (Yc_markStringSLa L n) ∧ (True → ObsEq [Ob.arr true 1 (List.map strC
 (seqM mkT cOne L n))] [Ob.arr true 1 (List.map strC (seqM mkT cOne L n))] ∧ AV.sv (li (n + (↑(List.length L) : Int))) = AV.sv (li (n + (↑(List.length L) : Int)))) ∧ True) := by
 kernel_rfl
theorem c_markStringS (L : List ByteArray) (n : Int) (h0 : 0 ≤ n) (h : n + L.length ≤ 2147483647)  : P_c_markStringS L n := by
  refine CallOK.ofRun wide (run_c_markStringS L n) Try.call157 Try.func157 rfl rfl rfl ?_
  with_reducible repeat' (first | apply And.intro | exact flatI | exact flatS | exact rowLens | (intro; skip) | apply obsN | apply obsC | apply obA | apply obM | apply obB | apply svA | apply tupA | apply lcA | apply lcS | apply svC | apply liC | apply lbC | apply lsC | apply vIc | apply vBc | apply vSc | apply vLc | apply mapC | apply Hc_markStringSLa | apply Ec_markStringSLa | apply Sc_markStringSLa | apply EW0c_markStringSLa | apply c_markText)
  all_goals (try simp only [std, stdM] at *)
  all_goals (try (first | with_reducible rfl | omega | assumption | (refine (decide_eq_true ?_).symm; assumption) | (refine (decide_eq_false ?_).symm; assumption) | (refine rowGet ?_; (first | omega | (simp only [std, stdM]; omega) | grind)) | (refine getC ?_ rfl; (first | omega | (simp only [std, stdM]; omega) | grind)) | (refine fill_step ?_ ?_; (first | omega | (simp only [std, stdM]; omega) | grind); (first | rfl | exact (Row.eq _).trans rfl)) | (refine fill_init ?_; (first | rfl | exact (Row.eq _).trans rfl)) | (refine set_row ?_; (simp only [List.length_map, List.length_set, mkTo_len]; omega)) | (refine mkToRow ?_; (first | omega | (simp only [std, stdM]; omega) | grind)) | (refine mkTo_row ?_ rfl; (first | omega | (simp only [std, stdM]; omega) | grind)) | (refine mkTo_step ?_ ?_; (first | omega | (simp only [std, stdM]; omega) | grind); (first | grind [mkTo_zero, snocI, snocS, rowSnoc])) | grind [mkTo_zero, snocI, snocS, rowSnoc]))

abbrev P_c_markDatumS (x : Datum) (n : Int) : Prop := CallOK Try.prog 128 [.arr true 4 (x.items.map datumC)] [.one (.ref 0), li n] [.arr true 4 ((seqM mkD cD x.items n).map datumC)] (.sv (li (n + sumBy cD x.items)))
def Tc_markDatumS_sLa (x : Datum) (n : Int) (x0 : SV) (x1 : SV) (x2 : Ob) : St := St.mk (regsOf 42 [(0, AV.sv (SV.one (AC.ref 0))), (1, AV.sv x1), (5, AV.sv x0)]) [x2] 1 
def Lc_markDatumS_sLa (x : Datum) (n : Int) (k : Nat) : St := Tc_markDatumS_sLa x n (li (↑k : Int)) (li (n + (↑(sumBy cD (List.take k (Datum.items x))) : Int))) (Ob.arr true 4
 (List.map datumC (mkTo mkD cD (Datum.items x) n k))) 
def Ic_markDatumS_sLa (x : Datum) (n : Int) : Nat → St → Prop := Head (Lc_markDatumS_sLa x n) (fun k => k ≤ List.length (Datum.items x) ∧ List.length (Datum.items x) ≤
 9223372036854775807) fun k => List.length (Datum.items x) - k 
def W0c_markDatumS_sLa (x : Datum) (n : Int) (x0 : SV) (x1 : Ob) : St := St.mk (regsOf 42 [(1, AV.sv x0)]) [x1] 1 
def Yc_markDatumS_sLa (x : Datum) (n : Int) : List (Prop × AEx × St) := [(True, AEx.exit 0, W0c_markDatumS_sLa x n (li (n + (↑(sumBy cD (Datum.items x)) : Int))) (Ob.arr true 4
 (List.map datumC (seqM mkD cD (Datum.items x) n))))]
theorem Hc_markDatumS_sLa {x : Datum} {n : Int} {k : Nat} {m : Nat} (h : (fun k => k ≤ List.length (Datum.items x) ∧ List.length (Datum.items x) ≤ 9223372036854775807) k) (hm :
 (fun k => List.length (Datum.items x) - k) k = m) : Ic_markDatumS_sLa x n m (Lc_markDatumS_sLa x n k) := hm ▸ Head.mk h
theorem Ec_markDatumS_sLa {x : Datum} {n : Int} {k : Nat} {x0 : SV} {x1 : SV} {x2 : Ob} (h0 : x0 = (li (↑k : Int))) (h1 : x1 = (li (n + (↑(sumBy cD (List.take k (Datum.items x))) :
 Int)))) (h2 : x2 = (Ob.arr true 4 (List.map datumC (mkTo mkD cD (Datum.items x) n k)))) : Tc_markDatumS_sLa x n x0 x1 x2 = Lc_markDatumS_sLa x n k := by
  rw [h0, h1, h2]
  rfl
theorem EW0c_markDatumS_sLa {x : Datum} {n : Int} {x0 y0 : SV} {x1 y1 : Ob} (h0 : x0 = y0) (h1 : x1 = y1) : W0c_markDatumS_sLa x n x0 x1 = W0c_markDatumS_sLa x n y0 y1 := by rw
 [h0, h1]
abbrev a4__markDatumS_sLa (x : Datum) (k : Nat) := (↑(sumBy cD (List.take k (Datum.items x))) : Int)
abbrev a3__markDatumS_sLa (x : Datum) (k : Nat) := (List.getD (Datum.items x) (Int.toNat (↑k : Int)) default)
abbrev a8__markDatumS_sLa (x : Datum) (k : Nat) := (List.map datumC (Datum.items (a3__markDatumS_sLa x k)))
abbrev a1__markDatumS_sLa (x : Datum) (n : Int) (k : Nat) := [cI (n + (a4__markDatumS_sLa x k)), cI (n + (a4__markDatumS_sLa x k) + 1), cS (mText (n + (a4__markDatumS_sLa x k) + 1
 + 1)), Cell.list (a8__markDatumS_sLa x k)]
abbrev a2__markDatumS_sLa (x : Datum) (n : Int) (k : Nat) := [cI (n + (a4__markDatumS_sLa x k)), cI (n + (a4__markDatumS_sLa x k) + 1), cS (Datum.text (a3__markDatumS_sLa x k)),
 Cell.list (a8__markDatumS_sLa x k)]
abbrev a5__markDatumS_sLa (x : Datum) (n : Int) (k : Nat) := (List.map datumC (mkTo mkD cD (Datum.items x) n k))
abbrev a6__markDatumS_sLa (x : Datum) (n : Int) (k : Nat) := [cI (n + (a4__markDatumS_sLa x k)), cI (Datum.number (a3__markDatumS_sLa x k)), cS (Datum.text (a3__markDatumS_sLa x
 k)), Cell.list (a8__markDatumS_sLa x k)]
abbrev a7__markDatumS_sLa (x : Datum) (n : Int) (k : Nat) := (List.set (a5__markDatumS_sLa x n k) (Int.toNat (↑k : Int)) (a1__markDatumS_sLa x n k))
abbrev a9__markDatumS_sLa (x : Datum) (n : Int) (k : Nat) := (List.map datumC (seqM mkD cD (Datum.items (a3__markDatumS_sLa x k)) (n + (a4__markDatumS_sLa x k) + 1 + 1 + 1)))
abbrev a10__markDatumS_sLa (x : Datum) (n : Int) (k : Nat) := (li (n + (a4__markDatumS_sLa x k) + 1 + 1 + 1 + (↑(sumBy cD (Datum.items (a3__markDatumS_sLa x k))) : Int)))
theorem run_c_markDatumS_sLa (x : Datum) (n : Int) (k : Nat) : aexec Try.prog (loopAt Try.f128 0) (Lc_markDatumS_sLa x n k) [Orc.br [Orc.cells (datumF (a3__markDatumS_sLa x k)),
 Orc.take (a6__markDatumS_sLa x n k) (List.set (a5__markDatumS_sLa x n k) (Int.toNat (↑k : Int)) (a2__markDatumS_sLa x n k)) 0, Orc.call [Mode.rd] [] (AV.sv (ls (mText (n +
 (a4__markDatumS_sLa x k) + 1 + 1)))), Orc.take (a2__markDatumS_sLa x n k) (a7__markDatumS_sLa x n k) 0, Orc.sub, Orc.subcall (a1__markDatumS_sLa x n k) (a8__markDatumS_sLa x k) 4,
 Orc.call [Mode.own true 4, Mode.rd] [Ob.arr true 4 (a9__markDatumS_sLa x n k)] (AV.sv (a10__markDatumS_sLa x n k)), Orc.ghost (Ghost.sel [0] [0, 1, 5]), Orc.goto (List.length
 (Datum.items x) - (k + 1)) (Lc_markDatumS_sLa x n (k + 1))] [Orc.ghost (Ghost.sel [0] [1]), Orc.out 0]] (loopK (Ic_markDatumS_sLa x n) (Yc_markDatumS_sLa x n) (List.length
 (Datum.items x) - k)) = (List.length (a5__markDatumS_sLa x n k) ≤ 9223372036854775807 → (decide ((↑k : Int) < (↑(List.length (a5__markDatumS_sLa x n k)) : Int)) = true → (0 ≤ (↑k
 : Int) ∧ Int.toNat (↑k : Int) < List.length (a5__markDatumS_sLa x n k)) ∧ (a5__markDatumS_sLa x n k)[Int.toNat (↑k : Int)]? = some (datumF (a3__markDatumS_sLa x k)) ∧ rng
 IntKind.i64 (n + (a4__markDatumS_sLa x k) + 1) ∧ (0 ≤ (↑k : Int) ∧ Int.toNat (↑k : Int) < List.length (List.set (a5__markDatumS_sLa x n k) (Int.toNat (↑k : Int))
 (a6__markDatumS_sLa x n k))) ∧ (List.set (a5__markDatumS_sLa x n k) (Int.toNat (↑k : Int)) (a6__markDatumS_sLa x n k))[Int.toNat (↑k : Int)]? = some (a6__markDatumS_sLa x n k) ∧
 List.set (List.set (a5__markDatumS_sLa x n k) (Int.toNat (↑k : Int)) (a6__markDatumS_sLa x n k)) (Int.toNat (↑k : Int)) (a2__markDatumS_sLa x n k) = List.set (a5__markDatumS_sLa x
 n k) (Int.toNat (↑k : Int)) (a2__markDatumS_sLa x n k) ∧ rng IntKind.i64 (n + (a4__markDatumS_sLa x k) + 1 + 1) ∧ P_c_markText (n + (a4__markDatumS_sLa x k) + 1 + 1) ∧ (0 ≤ (↑k :
 Int) ∧ Int.toNat (↑k : Int) < List.length (List.set (a5__markDatumS_sLa x n k) (Int.toNat (↑k : Int)) (a2__markDatumS_sLa x n k))) ∧ (List.set (a5__markDatumS_sLa x n k)
 (Int.toNat (↑k : Int)) (a2__markDatumS_sLa x n k))[Int.toNat (↑k : Int)]? = some (a2__markDatumS_sLa x n k) ∧ List.set (List.set (a5__markDatumS_sLa x n k) (Int.toNat (↑k : Int))
 (a2__markDatumS_sLa x n k)) (Int.toNat (↑k : Int)) (a1__markDatumS_sLa x n k) = List.set (a5__markDatumS_sLa x n k) (Int.toNat (↑k : Int)) (a1__markDatumS_sLa x n k) ∧ rng
 IntKind.i64 (n + (a4__markDatumS_sLa x k) + 1 + 1 + 1) ∧ (0 ≤ (↑k : Int) ∧ Int.toNat (↑k : Int) < List.length (a7__markDatumS_sLa x n k)) ∧ Int.toNat (↑k : Int) < List.length
 (a7__markDatumS_sLa x n k) ∧ (a7__markDatumS_sLa x n k)[Int.toNat (↑k : Int)]? = some (a1__markDatumS_sLa x n k) ∧ some (Cell.list (a8__markDatumS_sLa x k)) = some (Cell.list
 (a8__markDatumS_sLa x k)) ∧ (∀ (x_1 : List Cell), x_1 ∈ List.map datumC (Datum.items (a3__markDatumS_sLa x k)) → List.length x_1 = 4) ∧ CallOK Try.prog 128 [Ob.arr true 4
 (a8__markDatumS_sLa x k)] [SV.one (AC.ref 0), li (n + (a4__markDatumS_sLa x k) + 1 + 1 + 1)] [Ob.arr true 4 (a9__markDatumS_sLa x n k)] (AV.sv (a10__markDatumS_sLa x n k)) ∧ rng
 IntKind.i64 ((↑k : Int) + 1) ∧ List.length (Datum.items x) - (k + 1) < List.length (Datum.items x) - k ∧ Tc_markDatumS_sLa x n (li ((↑k : Int) + 1)) (a10__markDatumS_sLa x n k)
 (Ob.arr true 4 (List.set (a7__markDatumS_sLa x n k) (Int.toNat (↑k : Int)) [cI (n + (a4__markDatumS_sLa x k)), cI (n + (a4__markDatumS_sLa x k) + 1), cS (mText (n +
 (a4__markDatumS_sLa x k) + 1 + 1)), Cell.list (a9__markDatumS_sLa x n k)])) = Lc_markDatumS_sLa x n (k + 1) ∧ Ic_markDatumS_sLa x n (List.length (Datum.items x) - (k + 1))
 (Lc_markDatumS_sLa x n (k + 1))) ∧ (decide ((↑k : Int) < (↑(List.length (a5__markDatumS_sLa x n k)) : Int)) = false → True ∧ W0c_markDatumS_sLa x n (li (n + (a4__markDatumS_sLa x
 k))) (Ob.arr true 4 (a5__markDatumS_sLa x n k)) = W0c_markDatumS_sLa x n (li (n + (↑(sumBy cD (Datum.items x)) : Int))) (Ob.arr true 4 (List.map datumC (seqM mkD cD (Datum.items
 x) n))))) := by kernel_rfl
theorem Sc_markDatumS_sLa (x : Datum) (n : Int) (h0 : 0 ≤ n) (h : n + (↑(sumBy cD (Datum.items x)) : Int) ≤ 2147483647) (ih : ∀ (z : Datum), z ∈ Datum.items x → ∀ (n : Int), 0 ≤ n
 → n + (↑(sumBy cD (Datum.items z)) : Int) ≤ 2147483647 → P_c_markDatumS z n)  : LoopSem Try.prog (loopAt Try.f128 0) (Ic_markDatumS_sLa x n) (Yc_markDatumS_sLa x n) := by
  refine LoopSem.ofHead wide fun k h => ⟨_, _, run_c_markDatumS_sLa x n k, ?_⟩
  try delta a4__markDatumS_sLa a3__markDatumS_sLa a8__markDatumS_sLa a1__markDatumS_sLa a2__markDatumS_sLa a5__markDatumS_sLa a6__markDatumS_sLa a7__markDatumS_sLa a9__markDatumS_sLa a10__markDatumS_sLa
  have g0 := sumBy_takeLe cD x.items (k + 1)
  with_reducible repeat' (first | apply And.intro | exact flatI | exact flatS | exact rowLens | exact ih | (intro; skip) | apply obsN | apply obsC | apply obA | apply obM | apply obB | apply svA | apply tupA | apply lcA | apply lcS | apply svC | apply liC | apply lbC | apply lsC | apply vIc | apply vBc | apply vSc | apply vLc | apply mapC | apply Hc_markDatumS_sLa | apply Ec_markDatumS_sLa | apply EW0c_markDatumS_sLa | apply c_markText | apply ih)
  all_goals (try simp only [std, stdM] at *)
  all_goals (try (first | with_reducible rfl | omega | assumption | (refine (decide_eq_true ?_).symm; assumption) | (refine (decide_eq_false ?_).symm; assumption) | (refine rowGet ?_; (first | omega | (simp only [std, stdM]; omega) | grind)) | (refine getC ?_ rfl; (first | omega | (simp only [std, stdM]; omega) | grind)) | (refine fill_step ?_ ?_; (first | omega | (simp only [std, stdM]; omega) | grind); (first | rfl | exact (Row.eq _).trans rfl)) | (refine fill_init ?_; (first | rfl | exact (Row.eq _).trans rfl)) | (refine set_row ?_; (simp only [List.length_map, List.length_set, mkTo_len]; omega)) | (refine mkToRow ?_; (first | omega | (simp only [std, stdM]; omega) | grind)) | (refine mkTo_row ?_ rfl; (first | omega | (simp only [std, stdM]; omega) | grind)) | (refine mkTo_step ?_ ?_; (first | omega | (simp only [std, stdM]; omega) | grind); (first | exact mkD_C _ _ | grind [sumBy_step, getD_mem', cD_eq, mkD_C, mkTo_all, snocI, snocS, rowSnoc])) | grind [sumBy_step, getD_mem', cD_eq, mkD_C, mkTo_all, snocI, snocS, rowSnoc]))
theorem run_c_markDatumS_s (x : Datum) (n : Int) : aexec Try.prog (Option.getD (Func.body Try.f128) Code.skip) (entry [Ob.arr true 4 (List.map datumC (Datum.items x))] [SV.one
 (AC.ref 0), li n] 42) [Orc.ghost (Ghost.sel [0] [0, 1, 5]), Orc.loop (List.length (Datum.items x) - 0) (Lc_markDatumS_sLa x n 0) (Ic_markDatumS_sLa x n) [(True, AEx.exit 0,
 W0c_markDatumS_sLa x n (li (n + (↑(sumBy cD (Datum.items x)) : Int))) (Ob.arr true 4 (List.map datumC (seqM mkD cD (Datum.items x) n))), [Orc.fin []])]] (finK Try.prog
 [ResultVar.tmp 4] [Ob.arr true 4 (List.map datumC (seqM mkD cD (Datum.items x) n))] (AV.sv (li (n + (↑(sumBy cD (Datum.items x)) : Int))))) = (Tc_markDatumS_sLa x n (li 0) (li n)
 (Ob.arr true 4 (List.map datumC (Datum.items x))) = Lc_markDatumS_sLa x n 0 ∧ Ic_markDatumS_sLa x n (List.length (Datum.items x) - 0) (Lc_markDatumS_sLa x n 0) ∧ LoopSem Try.prog
 (loopAt Try.f128 0) (Ic_markDatumS_sLa x n) (Yc_markDatumS_sLa x n) ∧ (True → ObsEq [Ob.arr true 4 (List.map datumC (seqM mkD cD (Datum.items x) n))] [Ob.arr true 4 (List.map
 datumC (seqM mkD cD (Datum.items x) n))] ∧ AV.sv (li (n + (↑(sumBy cD (Datum.items x)) : Int))) = AV.sv (li (n + (↑(sumBy cD (Datum.items x)) : Int)))) ∧ True) := by kernel_rfl
theorem c_markDatumS_s (x : Datum) (n : Int) (h0 : 0 ≤ n) (h : n + sumBy cD x.items ≤ 2147483647) (ih : ∀ z ∈ x.items, ∀ (n : Int) (h0 : 0 ≤ n) (h : n + sumBy cD z.items ≤
 2147483647), P_c_markDatumS z n)  : P_c_markDatumS x n := by
  refine CallOK.ofRun wide (run_c_markDatumS_s x n) Try.call128 Try.func128 rfl rfl rfl ?_
  have gl := cD_len x.items
  with_reducible repeat' (first | apply And.intro | exact flatI | exact flatS | exact rowLens | exact ih | (intro; skip) | apply obsN | apply obsC | apply obA | apply obM | apply obB | apply svA | apply tupA | apply lcA | apply lcS | apply svC | apply liC | apply lbC | apply lsC | apply vIc | apply vBc | apply vSc | apply vLc | apply mapC | apply Hc_markDatumS_sLa | apply Ec_markDatumS_sLa | apply Sc_markDatumS_sLa | apply EW0c_markDatumS_sLa | apply c_markText)
  all_goals (try simp only [std, stdM] at *)
  all_goals (try (first | with_reducible rfl | omega | assumption | (refine (decide_eq_true ?_).symm; assumption) | (refine (decide_eq_false ?_).symm; assumption) | (refine rowGet ?_; (first | omega | (simp only [std, stdM]; omega) | grind)) | (refine getC ?_ rfl; (first | omega | (simp only [std, stdM]; omega) | grind)) | (refine fill_step ?_ ?_; (first | omega | (simp only [std, stdM]; omega) | grind); (first | rfl | exact (Row.eq _).trans rfl)) | (refine fill_init ?_; (first | rfl | exact (Row.eq _).trans rfl)) | (refine set_row ?_; (simp only [List.length_map, List.length_set, mkTo_len]; omega)) | (refine mkToRow ?_; (first | omega | (simp only [std, stdM]; omega) | grind)) | (refine mkTo_row ?_ rfl; (first | omega | (simp only [std, stdM]; omega) | grind)) | (refine mkTo_step ?_ ?_; (first | omega | (simp only [std, stdM]; omega) | grind); (first | grind [mkTo_all, snocI, snocS, rowSnoc])) | grind [mkTo_all, snocI, snocS, rowSnoc]))
theorem c_markDatumS (x : Datum) : ∀ (n : Int) (h0 : 0 ≤ n) (h : n + sumBy cD x.items ≤ 2147483647), P_c_markDatumS x n := Datum.ind (P := fun x => ∀ (n : Int) (h0 : 0 ≤ n) (h : n + sumBy cD x.items ≤ 2147483647), P_c_markDatumS x n) (fun x ih n h0 h => c_markDatumS_s x n h0 h ih) x
theorem c_markDatumSL (L : List Datum) (n : Int) (h0 : 0 ≤ n) (h : n + sumBy cD L ≤ 2147483647) : P_c_markDatumS { (default : Datum) with items := L } n := c_markDatumS { (default : Datum) with items := L } n h0 h

abbrev P_c_markDatum (x : Datum) (n : Int) : Prop := CallOK Try.prog 59 [.arr true 4 (x.items.map datumC)] [.agg [vI x.kind, vI x.number, vS x.text, .ref 0], li n] [.arr true 4 ((seqM mkD cD x.items (n)).map datumC)] (.sv (li (n + sumBy cD x.items)))
theorem run_c_markDatum (x : Datum) (n : Int) : aexec Try.prog (Option.getD (Func.body Try.f59) Code.skip) (entry [Ob.arr true 4 (List.map datumC (Datum.items x))] [SV.agg [vI
 (Datum.kind x), vI (Datum.number x), vS (Datum.text x), AC.ref 0], li n] 10) [Orc.call [Mode.own true 4, Mode.rd] [Ob.arr true 4 (List.map datumC (seqM mkD cD (Datum.items x) n))]
 (AV.sv (li (n + (↑(sumBy cD (Datum.items x)) : Int)))), Orc.fin []] (finK Try.prog [ResultVar.tmp 4] [Ob.arr true 4 (List.map datumC (seqM mkD cD (Datum.items x) n))] (AV.sv (li
 (n + (↑(sumBy cD (Datum.items x)) : Int))))) = (CallOK Try.prog 128 [Ob.arr true 4 (List.map datumC (Datum.items x))] [SV.one (AC.ref 0), li n] [Ob.arr true 4 (List.map datumC
 (seqM mkD cD (Datum.items x) n))] (AV.sv (li (n + (↑(sumBy cD (Datum.items x)) : Int)))) ∧ ObsEq [Ob.arr true 4 (List.map datumC (seqM mkD cD (Datum.items x) n))] [Ob.arr true 4
 (List.map datumC (seqM mkD cD (Datum.items x) n))] ∧ AV.sv (li (n + (↑(sumBy cD (Datum.items x)) : Int))) = AV.sv (li (n + (↑(sumBy cD (Datum.items x)) : Int)))) := by kernel_rfl
theorem c_markDatum (x : Datum) (n : Int) (h0 : 0 ≤ n) (h : n + (sumBy cD x.items : Nat) ≤ 2147483647)  : P_c_markDatum x n := by
  refine CallOK.ofRun wide (run_c_markDatum x n) Try.call59 Try.func59 rfl rfl rfl ?_
  with_reducible repeat' (first | apply And.intro | exact flatI | exact flatS | exact rowLens | (intro; skip) | apply obsN | apply obsC | apply obA | apply obM | apply obB | apply svA | apply tupA | apply lcA | apply lcS | apply svC | apply liC | apply lbC | apply lsC | apply vIc | apply vBc | apply vSc | apply vLc | apply mapC | apply c_markDatumS | apply c_markDatumSL)
  all_goals (try simp only [std, stdM] at *)
  all_goals (try (first | with_reducible rfl | omega | assumption | (refine (decide_eq_true ?_).symm; assumption) | (refine (decide_eq_false ?_).symm; assumption) | (refine rowGet ?_; (first | omega | (simp only [std, stdM]; omega) | grind)) | (refine getC ?_ rfl; (first | omega | (simp only [std, stdM]; omega) | grind)) | (refine fill_step ?_ ?_; (first | omega | (simp only [std, stdM]; omega) | grind); (first | rfl | exact (Row.eq _).trans rfl)) | (refine fill_init ?_; (first | rfl | exact (Row.eq _).trans rfl)) | (refine set_row ?_; (simp only [List.length_map, List.length_set, mkTo_len]; omega)) | (refine mkToRow ?_; (first | omega | (simp only [std, stdM]; omega) | grind)) | (refine mkTo_row ?_ rfl; (first | omega | (simp only [std, stdM]; omega) | grind)) | (refine mkTo_step ?_ ?_; (first | omega | (simp only [std, stdM]; omega) | grind); (first | grind [snocI, snocS, rowSnoc])) | grind [snocI, snocS, rowSnoc]))

abbrev P_c_markCoreS (x : Core) (n : Int) : Prop := CallOK Try.prog 115 [.arr true 8 (x.kids.map coreC)] [.one (.ref 0), li n] [.arr true 8 ((seqM mkC cC x.kids n).map coreC)] (.sv (li (n + sumBy cC x.kids)))
def Tc_markCoreS_sLa (x : Core) (n : Int) (x0 : SV) (x1 : SV) (x2 : Ob) : St := St.mk (regsOf 74 [(0, AV.sv (SV.one (AC.ref 0))), (1, AV.sv x1), (5, AV.sv x0)]) [x2] 1 
def Lc_markCoreS_sLa (x : Core) (n : Int) (k : Nat) : St := Tc_markCoreS_sLa x n (li (↑k : Int)) (li (n + (↑(sumBy cC (List.take k (Core.kids x))) : Int))) (Ob.arr true 8 (List.map
 coreC (mkTo mkC cC (Core.kids x) n k))) 
def Ic_markCoreS_sLa (x : Core) (n : Int) : Nat → St → Prop := Head (Lc_markCoreS_sLa x n) (fun k => k ≤ List.length (Core.kids x) ∧ List.length (Core.kids x) ≤
 9223372036854775807) fun k => List.length (Core.kids x) - k 
def W0c_markCoreS_sLa (x : Core) (n : Int) (x0 : SV) (x1 : Ob) : St := St.mk (regsOf 74 [(1, AV.sv x0)]) [x1] 1 
def Yc_markCoreS_sLa (x : Core) (n : Int) : List (Prop × AEx × St) := [(True, AEx.exit 0, W0c_markCoreS_sLa x n (li (n + (↑(sumBy cC (Core.kids x)) : Int))) (Ob.arr true 8
 (List.map coreC (seqM mkC cC (Core.kids x) n))))]
theorem Hc_markCoreS_sLa {x : Core} {n : Int} {k : Nat} {m : Nat} (h : (fun k => k ≤ List.length (Core.kids x) ∧ List.length (Core.kids x) ≤ 9223372036854775807) k) (hm : (fun k =>
 List.length (Core.kids x) - k) k = m) : Ic_markCoreS_sLa x n m (Lc_markCoreS_sLa x n k) := hm ▸ Head.mk h
theorem Ec_markCoreS_sLa {x : Core} {n : Int} {k : Nat} {x0 : SV} {x1 : SV} {x2 : Ob} (h0 : x0 = (li (↑k : Int))) (h1 : x1 = (li (n + (↑(sumBy cC (List.take k (Core.kids x))) :
 Int)))) (h2 : x2 = (Ob.arr true 8 (List.map coreC (mkTo mkC cC (Core.kids x) n k)))) : Tc_markCoreS_sLa x n x0 x1 x2 = Lc_markCoreS_sLa x n k := by
  rw [h0, h1, h2]
  rfl
theorem EW0c_markCoreS_sLa {x : Core} {n : Int} {x0 y0 : SV} {x1 y1 : Ob} (h0 : x0 = y0) (h1 : x1 = y1) : W0c_markCoreS_sLa x n x0 x1 = W0c_markCoreS_sLa x n y0 y1 := by rw [h0,
 h1]
abbrev a1__markCoreS_sLa (x : Core) (k : Nat) := (List.getD (Core.kids x) (Int.toNat (↑k : Int)) default)
abbrev a20__markCoreS_sLa (x : Core) (n : Int) (k : Nat) := (List.map coreC (mkTo mkC cC (Core.kids x) n k))
abbrev a4__markCoreS_sLa (x : Core) (k : Nat) := (↑(sumBy cC (List.take k (Core.kids x))) : Int)
abbrev a14__markCoreS_sLa (x : Core) (k : Nat) := (Datum.items (Core.datum (a1__markCoreS_sLa x k)))
abbrev a23__markCoreS_sLa (x : Core) (k : Nat) := (List.map datumC (a14__markCoreS_sLa x k))
abbrev a19__markCoreS_sLa (x : Core) (k : Nat) := (List.map coreC (Core.kids (a1__markCoreS_sLa x k)))
abbrev a9__markCoreS_sLa (x : Core) (n : Int) (k : Nat) := [cI (n + (a4__markCoreS_sLa x k)), cI (n + (a4__markCoreS_sLa x k) + 1), Cell.list (List.map intC (Core.params
 (a1__markCoreS_sLa x k))), cI (Datum.kind (Core.datum (a1__markCoreS_sLa x k))), cI (Datum.number (Core.datum (a1__markCoreS_sLa x k))), cS (Datum.text (Core.datum
 (a1__markCoreS_sLa x k))), Cell.list (a23__markCoreS_sLa x k), Cell.list (a19__markCoreS_sLa x k)]
abbrev a2__markCoreS_sLa (x : Core) (n : Int) (k : Nat) := (List.set (a20__markCoreS_sLa x n k) (Int.toNat (↑k : Int)) (a9__markCoreS_sLa x n k))
abbrev a13__markCoreS_sLa (x : Core) (n : Int) (k : Nat) := (List.map intC (seqM mkI cOne (Core.params (a1__markCoreS_sLa x k)) (n + (a4__markCoreS_sLa x k) + 1 + 1)))
abbrev a11__markCoreS_sLa (x : Core) (k : Nat) := (↑(List.length (Core.params (a1__markCoreS_sLa x k))) : Int)
abbrev a21__markCoreS_sLa (x : Core) (n : Int) (k : Nat) := (n + (a4__markCoreS_sLa x k) + 1 + 1 + (a11__markCoreS_sLa x k))
abbrev a22__markCoreS_sLa (x : Core) (n : Int) (k : Nat) := (n + (a4__markCoreS_sLa x k) + 1 + 1 + (a11__markCoreS_sLa x k) + 1)
abbrev a17__markCoreS_sLa (x : Core) (n : Int) (k : Nat) := (n + (a4__markCoreS_sLa x k) + 1 + 1 + (a11__markCoreS_sLa x k) + 1 + 1)
abbrev a3__markCoreS_sLa (x : Core) (n : Int) (k : Nat) := [cI (n + (a4__markCoreS_sLa x k)), cI (n + (a4__markCoreS_sLa x k) + 1), Cell.list (a13__markCoreS_sLa x n k), cI
 (a21__markCoreS_sLa x n k), cI (a22__markCoreS_sLa x n k), cS (mText (a17__markCoreS_sLa x n k)), Cell.list (a23__markCoreS_sLa x k), Cell.list (a19__markCoreS_sLa x k)]
abbrev a15__markCoreS_sLa (x : Core) (n : Int) (k : Nat) := (n + (a4__markCoreS_sLa x k) + 1 + 1 + (a11__markCoreS_sLa x k) + 1 + 1 + 1)
abbrev a5__markCoreS_sLa (x : Core) (n : Int) (k : Nat) := [cI (n + (a4__markCoreS_sLa x k)), cI (n + (a4__markCoreS_sLa x k) + 1), Cell.list (a13__markCoreS_sLa x n k), cI
 (a21__markCoreS_sLa x n k), cI (a22__markCoreS_sLa x n k), cS (mText (a17__markCoreS_sLa x n k)), Cell.list (List.map datumC (seqM mkD cD (a14__markCoreS_sLa x k)
 (a15__markCoreS_sLa x n k))), Cell.list (a19__markCoreS_sLa x k)]
abbrev a6__markCoreS_sLa (x : Core) (n : Int) (k : Nat) := [cI (n + (a4__markCoreS_sLa x k)), cI (n + (a4__markCoreS_sLa x k) + 1), Cell.list (a13__markCoreS_sLa x n k), cI
 (a21__markCoreS_sLa x n k), cI (a22__markCoreS_sLa x n k), cS (Datum.text (Core.datum (a1__markCoreS_sLa x k))), Cell.list (a23__markCoreS_sLa x k), Cell.list (a19__markCoreS_sLa
 x k)]
abbrev a7__markCoreS_sLa (x : Core) (n : Int) (k : Nat) := [cI (n + (a4__markCoreS_sLa x k)), cI (n + (a4__markCoreS_sLa x k) + 1), Cell.list (a13__markCoreS_sLa x n k), cI
 (a21__markCoreS_sLa x n k), cI (Datum.number (Core.datum (a1__markCoreS_sLa x k))), cS (Datum.text (Core.datum (a1__markCoreS_sLa x k))), Cell.list (a23__markCoreS_sLa x k),
 Cell.list (a19__markCoreS_sLa x k)]
abbrev a8__markCoreS_sLa (x : Core) (n : Int) (k : Nat) := [cI (n + (a4__markCoreS_sLa x k)), cI (n + (a4__markCoreS_sLa x k) + 1), Cell.list (a13__markCoreS_sLa x n k), cI
 (Datum.kind (Core.datum (a1__markCoreS_sLa x k))), cI (Datum.number (Core.datum (a1__markCoreS_sLa x k))), cS (Datum.text (Core.datum (a1__markCoreS_sLa x k))), Cell.list
 (a23__markCoreS_sLa x k), Cell.list (a19__markCoreS_sLa x k)]
abbrev a10__markCoreS_sLa (x : Core) (n : Int) (k : Nat) := [cI (n + (a4__markCoreS_sLa x k)), cI (Core.number (a1__markCoreS_sLa x k)), Cell.list (List.map intC (Core.params
 (a1__markCoreS_sLa x k))), cI (Datum.kind (Core.datum (a1__markCoreS_sLa x k))), cI (Datum.number (Core.datum (a1__markCoreS_sLa x k))), cS (Datum.text (Core.datum
 (a1__markCoreS_sLa x k))), Cell.list (a23__markCoreS_sLa x k), Cell.list (a19__markCoreS_sLa x k)]
abbrev a12__markCoreS_sLa (x : Core) (n : Int) (k : Nat) := (n + (a4__markCoreS_sLa x k) + 1 + 1 + (a11__markCoreS_sLa x k) + 1 + 1 + 1 + (↑(sumBy cD (a14__markCoreS_sLa x k)) :
 Int))
abbrev a16__markCoreS_sLa (x : Core) (n : Int) (k : Nat) := (List.set (a2__markCoreS_sLa x n k) (Int.toNat (↑k : Int)) (a3__markCoreS_sLa x n k))
abbrev a18__markCoreS_sLa (x : Core) (n : Int) (k : Nat) := (li (n + (a4__markCoreS_sLa x k) + 1 + 1 + (a11__markCoreS_sLa x k) + 1 + 1 + 1 + (↑(sumBy cD (a14__markCoreS_sLa x k))
 : Int) + (↑(sumBy cC (Core.kids (a1__markCoreS_sLa x k))) : Int)))
theorem run_c_markCoreS_sLa (x : Core) (n : Int) (k : Nat) : aexec Try.prog (loopAt Try.f115 0) (Lc_markCoreS_sLa x n k) [Orc.br [Orc.cells (coreF (a1__markCoreS_sLa x k)),
 Orc.take (a10__markCoreS_sLa x n k) (a2__markCoreS_sLa x n k) 0, Orc.sub, Orc.subcall (a9__markCoreS_sLa x n k) (List.map intC (Core.params (a1__markCoreS_sLa x k))) 1, Orc.call
 [Mode.own true 1, Mode.rd] [Ob.arr true 1 (a13__markCoreS_sLa x n k)] (AV.sv (li (a21__markCoreS_sLa x n k))), Orc.take (a8__markCoreS_sLa x n k) (List.set (a2__markCoreS_sLa x n
 k) (Int.toNat (↑k : Int)) (a7__markCoreS_sLa x n k)) 0, Orc.take (a7__markCoreS_sLa x n k) (List.set (a2__markCoreS_sLa x n k) (Int.toNat (↑k : Int)) (a6__markCoreS_sLa x n k)) 0,
 Orc.call [Mode.rd] [] (AV.sv (ls (mText (a17__markCoreS_sLa x n k)))), Orc.take (a6__markCoreS_sLa x n k) (a16__markCoreS_sLa x n k) 0, Orc.sub, Orc.subcall (a3__markCoreS_sLa x n
 k) (a23__markCoreS_sLa x k) 4, Orc.call [Mode.own true 4, Mode.rd] [Ob.arr true 4 (List.map datumC (seqM mkD cD (a14__markCoreS_sLa x k) (a15__markCoreS_sLa x n k)))] (AV.sv (li
 (a12__markCoreS_sLa x n k))), Orc.sub, Orc.subcall (a5__markCoreS_sLa x n k) (a19__markCoreS_sLa x k) 8, Orc.call [Mode.own true 8, Mode.rd] [Ob.arr true 8 (List.map coreC (seqM
 mkC cC (Core.kids (a1__markCoreS_sLa x k)) (a12__markCoreS_sLa x n k)))] (AV.sv (a18__markCoreS_sLa x n k)), Orc.ghost (Ghost.sel [0] [0, 1, 5]), Orc.goto (List.length (Core.kids
 x) - (k + 1)) (Lc_markCoreS_sLa x n (k + 1))] [Orc.ghost (Ghost.sel [0] [1]), Orc.out 0]] (loopK (Ic_markCoreS_sLa x n) (Yc_markCoreS_sLa x n) (List.length (Core.kids x) - k)) =
 (List.length (a20__markCoreS_sLa x n k) ≤ 9223372036854775807 → (decide ((↑k : Int) < (↑(List.length (a20__markCoreS_sLa x n k)) : Int)) = true → (0 ≤ (↑k : Int) ∧ Int.toNat (↑k :
 Int) < List.length (a20__markCoreS_sLa x n k)) ∧ (a20__markCoreS_sLa x n k)[Int.toNat (↑k : Int)]? = some (coreF (a1__markCoreS_sLa x k)) ∧ rng IntKind.i64 (n + (a4__markCoreS_sLa
 x k) + 1) ∧ (0 ≤ (↑k : Int) ∧ Int.toNat (↑k : Int) < List.length (List.set (a20__markCoreS_sLa x n k) (Int.toNat (↑k : Int)) (a10__markCoreS_sLa x n k))) ∧ (List.set
 (a20__markCoreS_sLa x n k) (Int.toNat (↑k : Int)) (a10__markCoreS_sLa x n k))[Int.toNat (↑k : Int)]? = some (a10__markCoreS_sLa x n k) ∧ List.set (List.set (a20__markCoreS_sLa x n
 k) (Int.toNat (↑k : Int)) (a10__markCoreS_sLa x n k)) (Int.toNat (↑k : Int)) (a9__markCoreS_sLa x n k) = List.set (a20__markCoreS_sLa x n k) (Int.toNat (↑k : Int))
 (a9__markCoreS_sLa x n k) ∧ rng IntKind.i64 (n + (a4__markCoreS_sLa x k) + 1 + 1) ∧ (0 ≤ (↑k : Int) ∧ Int.toNat (↑k : Int) < List.length (a2__markCoreS_sLa x n k)) ∧ Int.toNat (↑k
 : Int) < List.length (a2__markCoreS_sLa x n k) ∧ (a2__markCoreS_sLa x n k)[Int.toNat (↑k : Int)]? = some (a9__markCoreS_sLa x n k) ∧ some (Cell.list (List.map intC (Core.params
 (a1__markCoreS_sLa x k)))) = some (Cell.list (List.map intC (Core.params (a1__markCoreS_sLa x k)))) ∧ (∀ (x_1 : List Cell), x_1 ∈ List.map intC (Core.params (a1__markCoreS_sLa x
 k)) → List.length x_1 = 1) ∧ P_c_markIntS (Core.params (a1__markCoreS_sLa x k)) (n + (a4__markCoreS_sLa x k) + 1 + 1) ∧ (0 ≤ (↑k : Int) ∧ Int.toNat (↑k : Int) < List.length
 (List.set (a2__markCoreS_sLa x n k) (Int.toNat (↑k : Int)) (a8__markCoreS_sLa x n k))) ∧ (List.set (a2__markCoreS_sLa x n k) (Int.toNat (↑k : Int)) (a8__markCoreS_sLa x n
 k))[Int.toNat (↑k : Int)]? = some (a8__markCoreS_sLa x n k) ∧ List.set (List.set (a2__markCoreS_sLa x n k) (Int.toNat (↑k : Int)) (a8__markCoreS_sLa x n k)) (Int.toNat (↑k : Int))
 (a7__markCoreS_sLa x n k) = List.set (a2__markCoreS_sLa x n k) (Int.toNat (↑k : Int)) (a7__markCoreS_sLa x n k) ∧ rng IntKind.i64 (a22__markCoreS_sLa x n k) ∧ (0 ≤ (↑k : Int) ∧
 Int.toNat (↑k : Int) < List.length (List.set (a2__markCoreS_sLa x n k) (Int.toNat (↑k : Int)) (a7__markCoreS_sLa x n k))) ∧ (List.set (a2__markCoreS_sLa x n k) (Int.toNat (↑k :
 Int)) (a7__markCoreS_sLa x n k))[Int.toNat (↑k : Int)]? = some (a7__markCoreS_sLa x n k) ∧ List.set (List.set (a2__markCoreS_sLa x n k) (Int.toNat (↑k : Int)) (a7__markCoreS_sLa x
 n k)) (Int.toNat (↑k : Int)) (a6__markCoreS_sLa x n k) = List.set (a2__markCoreS_sLa x n k) (Int.toNat (↑k : Int)) (a6__markCoreS_sLa x n k) ∧ rng IntKind.i64 (a17__markCoreS_sLa
 x n k) ∧ P_c_markText (a17__markCoreS_sLa x n k) ∧ (0 ≤ (↑k : Int) ∧ Int.toNat (↑k : Int) < List.length (List.set (a2__markCoreS_sLa x n k) (Int.toNat (↑k : Int))
 (a6__markCoreS_sLa x n k))) ∧ (List.set (a2__markCoreS_sLa x n k) (Int.toNat (↑k : Int)) (a6__markCoreS_sLa x n k))[Int.toNat (↑k : Int)]? = some (a6__markCoreS_sLa x n k) ∧
 List.set (List.set (a2__markCoreS_sLa x n k) (Int.toNat (↑k : Int)) (a6__markCoreS_sLa x n k)) (Int.toNat (↑k : Int)) (a3__markCoreS_sLa x n k) = List.set (a2__markCoreS_sLa x n
 k) (Int.toNat (↑k : Int)) (a3__markCoreS_sLa x n k) ∧ rng IntKind.i64 (a15__markCoreS_sLa x n k) ∧ (0 ≤ (↑k : Int) ∧ Int.toNat (↑k : Int) < List.length (a16__markCoreS_sLa x n k))
 ∧ Int.toNat (↑k : Int) < List.length (a16__markCoreS_sLa x n k) ∧ (a16__markCoreS_sLa x n k)[Int.toNat (↑k : Int)]? = some (a3__markCoreS_sLa x n k) ∧ some (Cell.list
 (a23__markCoreS_sLa x k)) = some (Cell.list (a23__markCoreS_sLa x k)) ∧ (∀ (x_1 : List Cell), x_1 ∈ List.map datumC (a14__markCoreS_sLa x k) → List.length x_1 = 4) ∧ CallOK
 Try.prog 128 [Ob.arr true 4 (a23__markCoreS_sLa x k)] [SV.one (AC.ref 0), li (a15__markCoreS_sLa x n k)] [Ob.arr true 4 (List.map datumC (seqM mkD cD (a14__markCoreS_sLa x k)
 (a15__markCoreS_sLa x n k)))] (AV.sv (li (a12__markCoreS_sLa x n k))) ∧ (0 ≤ (↑k : Int) ∧ Int.toNat (↑k : Int) < List.length (List.set (a16__markCoreS_sLa x n k) (Int.toNat (↑k :
 Int)) (a5__markCoreS_sLa x n k))) ∧ Int.toNat (↑k : Int) < List.length (List.set (a16__markCoreS_sLa x n k) (Int.toNat (↑k : Int)) (a5__markCoreS_sLa x n k)) ∧ (List.set
 (a16__markCoreS_sLa x n k) (Int.toNat (↑k : Int)) (a5__markCoreS_sLa x n k))[Int.toNat (↑k : Int)]? = some (a5__markCoreS_sLa x n k) ∧ some (Cell.list (a19__markCoreS_sLa x k)) =
 some (Cell.list (a19__markCoreS_sLa x k)) ∧ (∀ (x_1 : List Cell), x_1 ∈ List.map coreC (Core.kids (a1__markCoreS_sLa x k)) → List.length x_1 = 8) ∧ CallOK Try.prog 115 [Ob.arr
 true 8 (a19__markCoreS_sLa x k)] [SV.one (AC.ref 0), li (a12__markCoreS_sLa x n k)] [Ob.arr true 8 (List.map coreC (seqM mkC cC (Core.kids (a1__markCoreS_sLa x k))
 (a12__markCoreS_sLa x n k)))] (AV.sv (a18__markCoreS_sLa x n k)) ∧ rng IntKind.i64 ((↑k : Int) + 1) ∧ List.length (Core.kids x) - (k + 1) < List.length (Core.kids x) - k ∧
 Tc_markCoreS_sLa x n (li ((↑k : Int) + 1)) (a18__markCoreS_sLa x n k) (Ob.arr true 8 (List.set (List.set (a16__markCoreS_sLa x n k) (Int.toNat (↑k : Int)) (a5__markCoreS_sLa x n
 k)) (Int.toNat (↑k : Int)) [cI (n + (a4__markCoreS_sLa x k)), cI (n + (a4__markCoreS_sLa x k) + 1), Cell.list (a13__markCoreS_sLa x n k), cI (a21__markCoreS_sLa x n k), cI
 (a22__markCoreS_sLa x n k), cS (mText (a17__markCoreS_sLa x n k)), Cell.list (List.map datumC (seqM mkD cD (a14__markCoreS_sLa x k) (a15__markCoreS_sLa x n k))), Cell.list
 (List.map coreC (seqM mkC cC (Core.kids (a1__markCoreS_sLa x k)) (a12__markCoreS_sLa x n k)))])) = Lc_markCoreS_sLa x n (k + 1) ∧ Ic_markCoreS_sLa x n (List.length (Core.kids x) -
 (k + 1)) (Lc_markCoreS_sLa x n (k + 1))) ∧ (decide ((↑k : Int) < (↑(List.length (a20__markCoreS_sLa x n k)) : Int)) = false → True ∧ W0c_markCoreS_sLa x n (li (n +
 (a4__markCoreS_sLa x k))) (Ob.arr true 8 (a20__markCoreS_sLa x n k)) = W0c_markCoreS_sLa x n (li (n + (↑(sumBy cC (Core.kids x)) : Int))) (Ob.arr true 8 (List.map coreC (seqM mkC
 cC (Core.kids x) n))))) := by kernel_rfl
theorem Sc_markCoreS_sLa (x : Core) (n : Int) (h0 : 0 ≤ n) (h : n + (↑(sumBy cC (Core.kids x)) : Int) ≤ 2147483647) (ih : ∀ (z : Core), z ∈ Core.kids x → ∀ (n : Int), 0 ≤ n → n +
 (↑(sumBy cC (Core.kids z)) : Int) ≤ 2147483647 → P_c_markCoreS z n)  : LoopSem Try.prog (loopAt Try.f115 0) (Ic_markCoreS_sLa x n) (Yc_markCoreS_sLa x n) := by
  refine LoopSem.ofHead wide fun k h => ⟨_, _, run_c_markCoreS_sLa x n k, ?_⟩
  try delta a1__markCoreS_sLa a20__markCoreS_sLa a4__markCoreS_sLa a14__markCoreS_sLa a23__markCoreS_sLa a19__markCoreS_sLa a9__markCoreS_sLa a2__markCoreS_sLa a13__markCoreS_sLa a11__markCoreS_sLa a21__markCoreS_sLa a22__markCoreS_sLa a17__markCoreS_sLa a3__markCoreS_sLa a15__markCoreS_sLa a5__markCoreS_sLa a6__markCoreS_sLa a7__markCoreS_sLa a8__markCoreS_sLa a10__markCoreS_sLa a12__markCoreS_sLa a16__markCoreS_sLa a18__markCoreS_sLa
  have g0 := sumBy_takeLe cC x.kids (k + 1)
  with_reducible repeat' (first | apply And.intro | exact flatI | exact flatS | exact rowLens | exact ih | (intro; skip) | apply obsN | apply obsC | apply obA | apply obM | apply obB | apply svA | apply tupA | apply lcA | apply lcS | apply svC | apply liC | apply lbC | apply lsC | apply vIc | apply vBc | apply vSc | apply vLc | apply mapC | apply Hc_markCoreS_sLa | apply Ec_markCoreS_sLa | apply EW0c_markCoreS_sLa | apply c_markIntS | apply c_markText | apply c_markDatumS | apply c_markDatumSL | apply ih)
  all_goals (try simp only [std, stdM] at *)
  all_goals (try (first | with_reducible rfl | omega | assumption | (refine (decide_eq_true ?_).symm; assumption) | (refine (decide_eq_false ?_).symm; assumption) | (refine rowGet ?_; (first | omega | (simp only [std, stdM]; omega) | grind)) | (refine getC ?_ rfl; (first | omega | (simp only [std, stdM]; omega) | grind)) | (refine fill_step ?_ ?_; (first | omega | (simp only [std, stdM]; omega) | grind); (first | rfl | exact (Row.eq _).trans rfl)) | (refine fill_init ?_; (first | rfl | exact (Row.eq _).trans rfl)) | (refine set_row ?_; (simp only [List.length_map, List.length_set, mkTo_len]; omega)) | (refine mkToRow ?_; (first | omega | (simp only [std, stdM]; omega) | grind)) | (refine mkTo_row ?_ rfl; (first | omega | (simp only [std, stdM]; omega) | grind)) | (refine mkTo_step ?_ ?_; (first | omega | (simp only [std, stdM]; omega) | grind); (first | exact mkC_C _ _ | grind [sumBy_step, getD_mem', cC_eq, mkC_C, mkTo_all, snocI, snocS, rowSnoc])) | grind [sumBy_step, getD_mem', cC_eq, mkC_C, mkTo_all, snocI, snocS, rowSnoc]))
theorem run_c_markCoreS_s (x : Core) (n : Int) : aexec Try.prog (Option.getD (Func.body Try.f115) Code.skip) (entry [Ob.arr true 8 (List.map coreC (Core.kids x))] [SV.one (AC.ref
 0), li n] 74) [Orc.ghost (Ghost.sel [0] [0, 1, 5]), Orc.loop (List.length (Core.kids x) - 0) (Lc_markCoreS_sLa x n 0) (Ic_markCoreS_sLa x n) [(True, AEx.exit 0, W0c_markCoreS_sLa
 x n (li (n + (↑(sumBy cC (Core.kids x)) : Int))) (Ob.arr true 8 (List.map coreC (seqM mkC cC (Core.kids x) n))), [Orc.fin []])]] (finK Try.prog [ResultVar.tmp 4] [Ob.arr true 8
 (List.map coreC (seqM mkC cC (Core.kids x) n))] (AV.sv (li (n + (↑(sumBy cC (Core.kids x)) : Int))))) = (Tc_markCoreS_sLa x n (li 0) (li n) (Ob.arr true 8 (List.map coreC
 (Core.kids x))) = Lc_markCoreS_sLa x n 0 ∧ Ic_markCoreS_sLa x n (List.length (Core.kids x) - 0) (Lc_markCoreS_sLa x n 0) ∧ LoopSem Try.prog (loopAt Try.f115 0) (Ic_markCoreS_sLa x
 n) (Yc_markCoreS_sLa x n) ∧ (True → ObsEq [Ob.arr true 8 (List.map coreC (seqM mkC cC (Core.kids x) n))] [Ob.arr true 8 (List.map coreC (seqM mkC cC (Core.kids x) n))] ∧ AV.sv (li
 (n + (↑(sumBy cC (Core.kids x)) : Int))) = AV.sv (li (n + (↑(sumBy cC (Core.kids x)) : Int)))) ∧ True) := by kernel_rfl
theorem c_markCoreS_s (x : Core) (n : Int) (h0 : 0 ≤ n) (h : n + sumBy cC x.kids ≤ 2147483647) (ih : ∀ z ∈ x.kids, ∀ (n : Int) (h0 : 0 ≤ n) (h : n + sumBy cC z.kids ≤ 2147483647),
 P_c_markCoreS z n)  : P_c_markCoreS x n := by
  refine CallOK.ofRun wide (run_c_markCoreS_s x n) Try.call115 Try.func115 rfl rfl rfl ?_
  have gl := cC_len x.kids
  with_reducible repeat' (first | apply And.intro | exact flatI | exact flatS | exact rowLens | exact ih | (intro; skip) | apply obsN | apply obsC | apply obA | apply obM | apply obB | apply svA | apply tupA | apply lcA | apply lcS | apply svC | apply liC | apply lbC | apply lsC | apply vIc | apply vBc | apply vSc | apply vLc | apply mapC | apply Hc_markCoreS_sLa | apply Ec_markCoreS_sLa | apply Sc_markCoreS_sLa | apply EW0c_markCoreS_sLa | apply c_markIntS | apply c_markText | apply c_markDatumS | apply c_markDatumSL)
  all_goals (try simp only [std, stdM] at *)
  all_goals (try (first | with_reducible rfl | omega | assumption | (refine (decide_eq_true ?_).symm; assumption) | (refine (decide_eq_false ?_).symm; assumption) | (refine rowGet ?_; (first | omega | (simp only [std, stdM]; omega) | grind)) | (refine getC ?_ rfl; (first | omega | (simp only [std, stdM]; omega) | grind)) | (refine fill_step ?_ ?_; (first | omega | (simp only [std, stdM]; omega) | grind); (first | rfl | exact (Row.eq _).trans rfl)) | (refine fill_init ?_; (first | rfl | exact (Row.eq _).trans rfl)) | (refine set_row ?_; (simp only [List.length_map, List.length_set, mkTo_len]; omega)) | (refine mkToRow ?_; (first | omega | (simp only [std, stdM]; omega) | grind)) | (refine mkTo_row ?_ rfl; (first | omega | (simp only [std, stdM]; omega) | grind)) | (refine mkTo_step ?_ ?_; (first | omega | (simp only [std, stdM]; omega) | grind); (first | grind [mkTo_all, snocI, snocS, rowSnoc])) | grind [mkTo_all, snocI, snocS, rowSnoc]))
theorem c_markCoreS (x : Core) : ∀ (n : Int) (h0 : 0 ≤ n) (h : n + sumBy cC x.kids ≤ 2147483647), P_c_markCoreS x n := Core.ind (P := fun x => ∀ (n : Int) (h0 : 0 ≤ n) (h : n + sumBy cC x.kids ≤ 2147483647), P_c_markCoreS x n) (fun x ih n h0 h => c_markCoreS_s x n h0 h ih) x
theorem c_markCoreSL (L : List Core) (n : Int) (h0 : 0 ≤ n) (h : n + sumBy cC L ≤ 2147483647) : P_c_markCoreS { (default : Core) with kids := L } n := c_markCoreS { (default : Core) with kids := L } n h0 h

abbrev P_c_markCore (x : Core) (n : Int) : Prop := CallOK Try.prog 29 [.arr true 1 (x.params.map intC), .arr true 4 (x.datum.items.map datumC), .arr true 8 (x.kids.map coreC)] [.agg [vI x.kind, vI x.number, .ref 0, vI x.datum.kind, vI x.datum.number, vS x.datum.text, .ref 1, .ref 2], li n] [.arr true 1 ((seqM mkI cOne x.params (n)).map intC), .arr true 4 ((seqM mkD cD x.datum.items (n + x.params.length)).map datumC), .arr true 8 ((seqM mkC cC x.kids (n + x.params.length + sumBy cD x.datum.items)).map coreC)] (.sv (li (n + x.params.length + sumBy cD x.datum.items + sumBy cC x.kids)))
theorem run_c_markCore (x : Core) (n : Int) : aexec Try.prog (Option.getD (Func.body Try.f29) Code.skip) (entry [Ob.arr true 1 (List.map intC (Core.params x)), Ob.arr true 4
 (List.map datumC (Datum.items (Core.datum x))), Ob.arr true 8 (List.map coreC (Core.kids x))] [SV.agg [vI (Core.kind x), vI (Core.number x), AC.ref 0, vI (Datum.kind (Core.datum
 x)), vI (Datum.number (Core.datum x)), vS (Datum.text (Core.datum x)), AC.ref 1, AC.ref 2], li n] 18) [Orc.call [Mode.own true 1, Mode.rd] [Ob.arr true 1 (List.map intC (seqM mkI
 cOne (Core.params x) n))] (AV.sv (li (n + (↑(List.length (Core.params x)) : Int)))), Orc.call [Mode.agg [none, none, none, some (true, 4)], Mode.rd] [Ob.arr true 4 (List.map
 datumC (seqM mkD cD (Datum.items (Core.datum x)) (n + (↑(List.length (Core.params x)) : Int))))] (AV.sv (li (n + (↑(List.length (Core.params x)) : Int) + (↑(sumBy cD (Datum.items
 (Core.datum x))) : Int)))), Orc.call [Mode.own true 8, Mode.rd] [Ob.arr true 8 (List.map coreC (seqM mkC cC (Core.kids x) (n + (↑(List.length (Core.params x)) : Int) + (↑(sumBy cD
 (Datum.items (Core.datum x))) : Int))))] (AV.sv (li (n + (↑(List.length (Core.params x)) : Int) + (↑(sumBy cD (Datum.items (Core.datum x))) : Int) + (↑(sumBy cC (Core.kids x)) :
 Int)))), Orc.fin []] (finK Try.prog [ResultVar.tmp 4] [Ob.arr true 1 (List.map intC (seqM mkI cOne (Core.params x) n)), Ob.arr true 4 (List.map datumC (seqM mkD cD (Datum.items
 (Core.datum x)) (n + (↑(List.length (Core.params x)) : Int)))), Ob.arr true 8 (List.map coreC (seqM mkC cC (Core.kids x) (n + (↑(List.length (Core.params x)) : Int) + (↑(sumBy cD
 (Datum.items (Core.datum x))) : Int))))] (AV.sv (li (n + (↑(List.length (Core.params x)) : Int) + (↑(sumBy cD (Datum.items (Core.datum x))) : Int) + (↑(sumBy cC (Core.kids x)) :
 Int))))) = (P_c_markIntS (Core.params x) n ∧ P_c_markDatum (Core.datum x) (n + (↑(List.length (Core.params x)) : Int)) ∧ CallOK Try.prog 115 [Ob.arr true 8 (List.map coreC
 (Core.kids x))] [SV.one (AC.ref 0), li (n + (↑(List.length (Core.params x)) : Int) + (↑(sumBy cD (Datum.items (Core.datum x))) : Int))] [Ob.arr true 8 (List.map coreC (seqM mkC cC
 (Core.kids x) (n + (↑(List.length (Core.params x)) : Int) + (↑(sumBy cD (Datum.items (Core.datum x))) : Int))))] (AV.sv (li (n + (↑(List.length (Core.params x)) : Int) + (↑(sumBy
 cD (Datum.items (Core.datum x))) : Int) + (↑(sumBy cC (Core.kids x)) : Int)))) ∧ ObsEq [Ob.arr true 1 (List.map intC (seqM mkI cOne (Core.params x) n)), Ob.arr true 4 (List.map
 datumC (seqM mkD cD (Datum.items (Core.datum x)) (n + (↑(List.length (Core.params x)) : Int)))), Ob.arr true 8 (List.map coreC (seqM mkC cC (Core.kids x) (n + (↑(List.length
 (Core.params x)) : Int) + (↑(sumBy cD (Datum.items (Core.datum x))) : Int))))] [Ob.arr true 1 (List.map intC (seqM mkI cOne (Core.params x) n)), Ob.arr true 4 (List.map datumC
 (seqM mkD cD (Datum.items (Core.datum x)) (n + (↑(List.length (Core.params x)) : Int)))), Ob.arr true 8 (List.map coreC (seqM mkC cC (Core.kids x) (n + (↑(List.length (Core.params
 x)) : Int) + (↑(sumBy cD (Datum.items (Core.datum x))) : Int))))] ∧ AV.sv (li (n + (↑(List.length (Core.params x)) : Int) + (↑(sumBy cD (Datum.items (Core.datum x))) : Int) +
 (↑(sumBy cC (Core.kids x)) : Int))) = AV.sv (li (n + (↑(List.length (Core.params x)) : Int) + (↑(sumBy cD (Datum.items (Core.datum x))) : Int) + (↑(sumBy cC (Core.kids x)) :
 Int)))) := by kernel_rfl
theorem c_markCore (x : Core) (n : Int) (h0 : 0 ≤ n) (h : n + (x.params.length + sumBy cD x.datum.items + sumBy cC x.kids : Nat) ≤ 2147483647)  : P_c_markCore x n := by
  refine CallOK.ofRun wide (run_c_markCore x n) Try.call29 Try.func29 rfl rfl rfl ?_
  with_reducible repeat' (first | apply And.intro | exact flatI | exact flatS | exact rowLens | (intro; skip) | apply obsN | apply obsC | apply obA | apply obM | apply obB | apply svA | apply tupA | apply lcA | apply lcS | apply svC | apply liC | apply lbC | apply lsC | apply vIc | apply vBc | apply vSc | apply vLc | apply mapC | apply c_markIntS | apply c_markDatum | apply c_markCoreS | apply c_markCoreSL)
  all_goals (try simp only [std, stdM] at *)
  all_goals (try (first | with_reducible rfl | omega | assumption | (refine (decide_eq_true ?_).symm; assumption) | (refine (decide_eq_false ?_).symm; assumption) | (refine rowGet ?_; (first | omega | (simp only [std, stdM]; omega) | grind)) | (refine getC ?_ rfl; (first | omega | (simp only [std, stdM]; omega) | grind)) | (refine fill_step ?_ ?_; (first | omega | (simp only [std, stdM]; omega) | grind); (first | rfl | exact (Row.eq _).trans rfl)) | (refine fill_init ?_; (first | rfl | exact (Row.eq _).trans rfl)) | (refine set_row ?_; (simp only [List.length_map, List.length_set, mkTo_len]; omega)) | (refine mkToRow ?_; (first | omega | (simp only [std, stdM]; omega) | grind)) | (refine mkTo_row ?_ rfl; (first | omega | (simp only [std, stdM]; omega) | grind)) | (refine mkTo_step ?_ ?_; (first | omega | (simp only [std, stdM]; omega) | grind); (first | grind [snocI, snocS, rowSnoc])) | grind [snocI, snocS, rowSnoc]))

abbrev P_c_markSyntaxS (x : Syntax) (n : Int) : Prop := CallOK Try.prog 93 [.arr true 5 (x.items.map syntaxC)] [.one (.ref 0), li n] [.arr true 5 ((seqM mkY cY x.items n).map syntaxC)] (.sv (li (n + sumBy cY x.items)))
def Tc_markSyntaxS_sLa (x : Syntax) (n : Int) (x0 : SV) (x1 : SV) (x2 : Ob) : St := St.mk (regsOf 49 [(0, AV.sv (SV.one (AC.ref 0))), (1, AV.sv x1), (5, AV.sv x0)]) [x2] 1 
def Lc_markSyntaxS_sLa (x : Syntax) (n : Int) (k : Nat) : St := Tc_markSyntaxS_sLa x n (li (↑k : Int)) (li (n + (↑(sumBy cY (List.take k (Syntax.items x))) : Int))) (Ob.arr true 5
 (List.map syntaxC (mkTo mkY cY (Syntax.items x) n k))) 
def Ic_markSyntaxS_sLa (x : Syntax) (n : Int) : Nat → St → Prop := Head (Lc_markSyntaxS_sLa x n) (fun k => k ≤ List.length (Syntax.items x) ∧ List.length (Syntax.items x) ≤
 9223372036854775807) fun k => List.length (Syntax.items x) - k 
def W0c_markSyntaxS_sLa (x : Syntax) (n : Int) (x0 : SV) (x1 : Ob) : St := St.mk (regsOf 49 [(1, AV.sv x0)]) [x1] 1 
def Yc_markSyntaxS_sLa (x : Syntax) (n : Int) : List (Prop × AEx × St) := [(True, AEx.exit 0, W0c_markSyntaxS_sLa x n (li (n + (↑(sumBy cY (Syntax.items x)) : Int))) (Ob.arr true 5
 (List.map syntaxC (seqM mkY cY (Syntax.items x) n))))]
theorem Hc_markSyntaxS_sLa {x : Syntax} {n : Int} {k : Nat} {m : Nat} (h : (fun k => k ≤ List.length (Syntax.items x) ∧ List.length (Syntax.items x) ≤ 9223372036854775807) k) (hm :
 (fun k => List.length (Syntax.items x) - k) k = m) : Ic_markSyntaxS_sLa x n m (Lc_markSyntaxS_sLa x n k) := hm ▸ Head.mk h
theorem Ec_markSyntaxS_sLa {x : Syntax} {n : Int} {k : Nat} {x0 : SV} {x1 : SV} {x2 : Ob} (h0 : x0 = (li (↑k : Int))) (h1 : x1 = (li (n + (↑(sumBy cY (List.take k (Syntax.items
 x))) : Int)))) (h2 : x2 = (Ob.arr true 5 (List.map syntaxC (mkTo mkY cY (Syntax.items x) n k)))) : Tc_markSyntaxS_sLa x n x0 x1 x2 = Lc_markSyntaxS_sLa x n k := by
  rw [h0, h1, h2]
  rfl
theorem EW0c_markSyntaxS_sLa {x : Syntax} {n : Int} {x0 y0 : SV} {x1 y1 : Ob} (h0 : x0 = y0) (h1 : x1 = y1) : W0c_markSyntaxS_sLa x n x0 x1 = W0c_markSyntaxS_sLa x n y0 y1 := by rw
 [h0, h1]
abbrev a1__markSyntaxS_sLa (x : Syntax) (k : Nat) := (List.getD (Syntax.items x) (Int.toNat (↑k : Int)) default)
abbrev a3__markSyntaxS_sLa (x : Syntax) (k : Nat) := (↑(sumBy cY (List.take k (Syntax.items x))) : Int)
abbrev a9__markSyntaxS_sLa (x : Syntax) (k : Nat) := (Syntax.scopes (a1__markSyntaxS_sLa x k))
abbrev a11__markSyntaxS_sLa (x : Syntax) (k : Nat) := (Syntax.items (a1__markSyntaxS_sLa x k))
abbrev a2__markSyntaxS_sLa (x : Syntax) (n : Int) (k : Nat) := [cI (n + (a3__markSyntaxS_sLa x k)), cI (n + (a3__markSyntaxS_sLa x k) + 1), cS (mText (n + (a3__markSyntaxS_sLa x k)
 + 1 + 1)), Cell.list (List.map intC (a9__markSyntaxS_sLa x k)), Cell.list (List.map syntaxC (a11__markSyntaxS_sLa x k))]
abbrev a15__markSyntaxS_sLa (x : Syntax) (n : Int) (k : Nat) := (List.map intC (seqM mkI cOne (a9__markSyntaxS_sLa x k) (n + (a3__markSyntaxS_sLa x k) + 1 + 1 + 1)))
abbrev a4__markSyntaxS_sLa (x : Syntax) (n : Int) (k : Nat) := [cI (n + (a3__markSyntaxS_sLa x k)), cI (n + (a3__markSyntaxS_sLa x k) + 1), cS (mText (n + (a3__markSyntaxS_sLa x k)
 + 1 + 1)), Cell.list (a15__markSyntaxS_sLa x n k), Cell.list (List.map syntaxC (a11__markSyntaxS_sLa x k))]
abbrev a5__markSyntaxS_sLa (x : Syntax) (n : Int) (k : Nat) := [cI (n + (a3__markSyntaxS_sLa x k)), cI (n + (a3__markSyntaxS_sLa x k) + 1), cS (Syntax.text (a1__markSyntaxS_sLa x
 k)), Cell.list (List.map intC (a9__markSyntaxS_sLa x k)), Cell.list (List.map syntaxC (a11__markSyntaxS_sLa x k))]
abbrev a6__markSyntaxS_sLa (x : Syntax) (n : Int) (k : Nat) := [cI (n + (a3__markSyntaxS_sLa x k)), cI (Syntax.number (a1__markSyntaxS_sLa x k)), cS (Syntax.text
 (a1__markSyntaxS_sLa x k)), Cell.list (List.map intC (a9__markSyntaxS_sLa x k)), Cell.list (List.map syntaxC (a11__markSyntaxS_sLa x k))]
abbrev a7__markSyntaxS_sLa (x : Syntax) (n : Int) (k : Nat) := (List.map syntaxC (mkTo mkY cY (Syntax.items x) n k))
abbrev a8__markSyntaxS_sLa (x : Syntax) (n : Int) (k : Nat) := (List.set (a7__markSyntaxS_sLa x n k) (Int.toNat (↑k : Int)) (a2__markSyntaxS_sLa x n k))
abbrev a10__markSyntaxS_sLa (x : Syntax) (n : Int) (k : Nat) := (n + (a3__markSyntaxS_sLa x k) + 1 + 1 + 1 + (↑(List.length (a9__markSyntaxS_sLa x k)) : Int))
abbrev a12__markSyntaxS_sLa (x : Syntax) (n : Int) (k : Nat) := (li (n + (a3__markSyntaxS_sLa x k) + 1 + 1 + 1 + (↑(List.length (a9__markSyntaxS_sLa x k)) : Int) + (↑(sumBy cY
 (a11__markSyntaxS_sLa x k)) : Int)))
abbrev a13__markSyntaxS_sLa (x : Syntax) (n : Int) (k : Nat) := (List.set (a7__markSyntaxS_sLa x n k) (Int.toNat (↑k : Int)) (a5__markSyntaxS_sLa x n k))
abbrev a14__markSyntaxS_sLa (x : Syntax) (n : Int) (k : Nat) := (List.set (a8__markSyntaxS_sLa x n k) (Int.toNat (↑k : Int)) (a4__markSyntaxS_sLa x n k))
theorem run_c_markSyntaxS_sLa (x : Syntax) (n : Int) (k : Nat) : aexec Try.prog (loopAt Try.f93 0) (Lc_markSyntaxS_sLa x n k) [Orc.br [Orc.cells (syntaxF (a1__markSyntaxS_sLa x
 k)), Orc.take (a6__markSyntaxS_sLa x n k) (a13__markSyntaxS_sLa x n k) 0, Orc.call [Mode.rd] [] (AV.sv (ls (mText (n + (a3__markSyntaxS_sLa x k) + 1 + 1)))), Orc.take
 (a5__markSyntaxS_sLa x n k) (a8__markSyntaxS_sLa x n k) 0, Orc.sub, Orc.subcall (a2__markSyntaxS_sLa x n k) (List.map intC (a9__markSyntaxS_sLa x k)) 1, Orc.call [Mode.own true 1,
 Mode.rd] [Ob.arr true 1 (a15__markSyntaxS_sLa x n k)] (AV.sv (li (a10__markSyntaxS_sLa x n k))), Orc.sub, Orc.subcall (a4__markSyntaxS_sLa x n k) (List.map syntaxC
 (a11__markSyntaxS_sLa x k)) 5, Orc.call [Mode.own true 5, Mode.rd] [Ob.arr true 5 (List.map syntaxC (seqM mkY cY (a11__markSyntaxS_sLa x k) (a10__markSyntaxS_sLa x n k)))] (AV.sv
 (a12__markSyntaxS_sLa x n k)), Orc.ghost (Ghost.sel [0] [0, 1, 5]), Orc.goto (List.length (Syntax.items x) - (k + 1)) (Lc_markSyntaxS_sLa x n (k + 1))] [Orc.ghost (Ghost.sel [0]
 [1]), Orc.out 0]] (loopK (Ic_markSyntaxS_sLa x n) (Yc_markSyntaxS_sLa x n) (List.length (Syntax.items x) - k)) = (List.length (a7__markSyntaxS_sLa x n k) ≤ 9223372036854775807 →
 (decide ((↑k : Int) < (↑(List.length (a7__markSyntaxS_sLa x n k)) : Int)) = true → (0 ≤ (↑k : Int) ∧ Int.toNat (↑k : Int) < List.length (a7__markSyntaxS_sLa x n k)) ∧
 (a7__markSyntaxS_sLa x n k)[Int.toNat (↑k : Int)]? = some (syntaxF (a1__markSyntaxS_sLa x k)) ∧ rng IntKind.i64 (n + (a3__markSyntaxS_sLa x k) + 1) ∧ (0 ≤ (↑k : Int) ∧ Int.toNat
 (↑k : Int) < List.length (List.set (a7__markSyntaxS_sLa x n k) (Int.toNat (↑k : Int)) (a6__markSyntaxS_sLa x n k))) ∧ (List.set (a7__markSyntaxS_sLa x n k) (Int.toNat (↑k : Int))
 (a6__markSyntaxS_sLa x n k))[Int.toNat (↑k : Int)]? = some (a6__markSyntaxS_sLa x n k) ∧ List.set (List.set (a7__markSyntaxS_sLa x n k) (Int.toNat (↑k : Int)) (a6__markSyntaxS_sLa
 x n k)) (Int.toNat (↑k : Int)) (a5__markSyntaxS_sLa x n k) = List.set (a7__markSyntaxS_sLa x n k) (Int.toNat (↑k : Int)) (a5__markSyntaxS_sLa x n k) ∧ rng IntKind.i64 (n +
 (a3__markSyntaxS_sLa x k) + 1 + 1) ∧ P_c_markText (n + (a3__markSyntaxS_sLa x k) + 1 + 1) ∧ (0 ≤ (↑k : Int) ∧ Int.toNat (↑k : Int) < List.length (a13__markSyntaxS_sLa x n k)) ∧
 (a13__markSyntaxS_sLa x n k)[Int.toNat (↑k : Int)]? = some (a5__markSyntaxS_sLa x n k) ∧ List.set (a13__markSyntaxS_sLa x n k) (Int.toNat (↑k : Int)) (a2__markSyntaxS_sLa x n k) =
 List.set (a7__markSyntaxS_sLa x n k) (Int.toNat (↑k : Int)) (a2__markSyntaxS_sLa x n k) ∧ rng IntKind.i64 (n + (a3__markSyntaxS_sLa x k) + 1 + 1 + 1) ∧ (0 ≤ (↑k : Int) ∧ Int.toNat
 (↑k : Int) < List.length (a8__markSyntaxS_sLa x n k)) ∧ Int.toNat (↑k : Int) < List.length (a8__markSyntaxS_sLa x n k) ∧ (a8__markSyntaxS_sLa x n k)[Int.toNat (↑k : Int)]? = some
 (a2__markSyntaxS_sLa x n k) ∧ some (Cell.list (List.map intC (a9__markSyntaxS_sLa x k))) = some (Cell.list (List.map intC (a9__markSyntaxS_sLa x k))) ∧ (∀ (x_1 : List Cell), x_1 ∈
 List.map intC (a9__markSyntaxS_sLa x k) → List.length x_1 = 1) ∧ P_c_markIntS (a9__markSyntaxS_sLa x k) (n + (a3__markSyntaxS_sLa x k) + 1 + 1 + 1) ∧ (0 ≤ (↑k : Int) ∧ Int.toNat
 (↑k : Int) < List.length (a14__markSyntaxS_sLa x n k)) ∧ Int.toNat (↑k : Int) < List.length (a14__markSyntaxS_sLa x n k) ∧ (a14__markSyntaxS_sLa x n k)[Int.toNat (↑k : Int)]? =
 some (a4__markSyntaxS_sLa x n k) ∧ some (Cell.list (List.map syntaxC (a11__markSyntaxS_sLa x k))) = some (Cell.list (List.map syntaxC (a11__markSyntaxS_sLa x k))) ∧ (∀ (x_1 : List
 Cell), x_1 ∈ List.map syntaxC (a11__markSyntaxS_sLa x k) → List.length x_1 = 5) ∧ CallOK Try.prog 93 [Ob.arr true 5 (List.map syntaxC (a11__markSyntaxS_sLa x k))] [SV.one (AC.ref
 0), li (a10__markSyntaxS_sLa x n k)] [Ob.arr true 5 (List.map syntaxC (seqM mkY cY (a11__markSyntaxS_sLa x k) (a10__markSyntaxS_sLa x n k)))] (AV.sv (a12__markSyntaxS_sLa x n k))
 ∧ rng IntKind.i64 ((↑k : Int) + 1) ∧ List.length (Syntax.items x) - (k + 1) < List.length (Syntax.items x) - k ∧ Tc_markSyntaxS_sLa x n (li ((↑k : Int) + 1)) (a12__markSyntaxS_sLa
 x n k) (Ob.arr true 5 (List.set (a14__markSyntaxS_sLa x n k) (Int.toNat (↑k : Int)) [cI (n + (a3__markSyntaxS_sLa x k)), cI (n + (a3__markSyntaxS_sLa x k) + 1), cS (mText (n +
 (a3__markSyntaxS_sLa x k) + 1 + 1)), Cell.list (a15__markSyntaxS_sLa x n k), Cell.list (List.map syntaxC (seqM mkY cY (a11__markSyntaxS_sLa x k) (a10__markSyntaxS_sLa x n k)))]))
 = Lc_markSyntaxS_sLa x n (k + 1) ∧ Ic_markSyntaxS_sLa x n (List.length (Syntax.items x) - (k + 1)) (Lc_markSyntaxS_sLa x n (k + 1))) ∧ (decide ((↑k : Int) < (↑(List.length
 (a7__markSyntaxS_sLa x n k)) : Int)) = false → True ∧ W0c_markSyntaxS_sLa x n (li (n + (a3__markSyntaxS_sLa x k))) (Ob.arr true 5 (a7__markSyntaxS_sLa x n k)) =
 W0c_markSyntaxS_sLa x n (li (n + (↑(sumBy cY (Syntax.items x)) : Int))) (Ob.arr true 5 (List.map syntaxC (seqM mkY cY (Syntax.items x) n))))) := by kernel_rfl
theorem Sc_markSyntaxS_sLa (x : Syntax) (n : Int) (h0 : 0 ≤ n) (h : n + (↑(sumBy cY (Syntax.items x)) : Int) ≤ 2147483647) (ih : ∀ (z : Syntax), z ∈ Syntax.items x → ∀ (n : Int), 0
 ≤ n → n + (↑(sumBy cY (Syntax.items z)) : Int) ≤ 2147483647 → P_c_markSyntaxS z n)  : LoopSem Try.prog (loopAt Try.f93 0) (Ic_markSyntaxS_sLa x n) (Yc_markSyntaxS_sLa x n) := by
  refine LoopSem.ofHead wide fun k h => ⟨_, _, run_c_markSyntaxS_sLa x n k, ?_⟩
  try delta a1__markSyntaxS_sLa a3__markSyntaxS_sLa a9__markSyntaxS_sLa a11__markSyntaxS_sLa a2__markSyntaxS_sLa a15__markSyntaxS_sLa a4__markSyntaxS_sLa a5__markSyntaxS_sLa a6__markSyntaxS_sLa a7__markSyntaxS_sLa a8__markSyntaxS_sLa a10__markSyntaxS_sLa a12__markSyntaxS_sLa a13__markSyntaxS_sLa a14__markSyntaxS_sLa
  have g0 := sumBy_takeLe cY x.items (k + 1)
  with_reducible repeat' (first | apply And.intro | exact flatI | exact flatS | exact rowLens | exact ih | (intro; skip) | apply obsN | apply obsC | apply obA | apply obM | apply obB | apply svA | apply tupA | apply lcA | apply lcS | apply svC | apply liC | apply lbC | apply lsC | apply vIc | apply vBc | apply vSc | apply vLc | apply mapC | apply Hc_markSyntaxS_sLa | apply Ec_markSyntaxS_sLa | apply EW0c_markSyntaxS_sLa | apply c_markText | apply c_markIntS | apply ih)
  all_goals (try simp only [std, stdM] at *)
  all_goals (try (first | with_reducible rfl | omega | assumption | (refine (decide_eq_true ?_).symm; assumption) | (refine (decide_eq_false ?_).symm; assumption) | (refine rowGet ?_; (first | omega | (simp only [std, stdM]; omega) | grind)) | (refine getC ?_ rfl; (first | omega | (simp only [std, stdM]; omega) | grind)) | (refine fill_step ?_ ?_; (first | omega | (simp only [std, stdM]; omega) | grind); (first | rfl | exact (Row.eq _).trans rfl)) | (refine fill_init ?_; (first | rfl | exact (Row.eq _).trans rfl)) | (refine set_row ?_; (simp only [List.length_map, List.length_set, mkTo_len]; omega)) | (refine mkToRow ?_; (first | omega | (simp only [std, stdM]; omega) | grind)) | (refine mkTo_row ?_ rfl; (first | omega | (simp only [std, stdM]; omega) | grind)) | (refine mkTo_step ?_ ?_; (first | omega | (simp only [std, stdM]; omega) | grind); (first | exact mkY_C _ _ | grind [sumBy_step, getD_mem', cY_eq, mkY_C, mkTo_all, snocI, snocS, rowSnoc])) | grind [sumBy_step, getD_mem', cY_eq, mkY_C, mkTo_all, snocI, snocS, rowSnoc]))
theorem run_c_markSyntaxS_s (x : Syntax) (n : Int) : aexec Try.prog (Option.getD (Func.body Try.f93) Code.skip) (entry [Ob.arr true 5 (List.map syntaxC (Syntax.items x))] [SV.one
 (AC.ref 0), li n] 49) [Orc.ghost (Ghost.sel [0] [0, 1, 5]), Orc.loop (List.length (Syntax.items x) - 0) (Lc_markSyntaxS_sLa x n 0) (Ic_markSyntaxS_sLa x n) [(True, AEx.exit 0,
 W0c_markSyntaxS_sLa x n (li (n + (↑(sumBy cY (Syntax.items x)) : Int))) (Ob.arr true 5 (List.map syntaxC (seqM mkY cY (Syntax.items x) n))), [Orc.fin []])]] (finK Try.prog
 [ResultVar.tmp 4] [Ob.arr true 5 (List.map syntaxC (seqM mkY cY (Syntax.items x) n))] (AV.sv (li (n + (↑(sumBy cY (Syntax.items x)) : Int))))) = (Tc_markSyntaxS_sLa x n (li 0) (li
 n) (Ob.arr true 5 (List.map syntaxC (Syntax.items x))) = Lc_markSyntaxS_sLa x n 0 ∧ Ic_markSyntaxS_sLa x n (List.length (Syntax.items x) - 0) (Lc_markSyntaxS_sLa x n 0) ∧ LoopSem
 Try.prog (loopAt Try.f93 0) (Ic_markSyntaxS_sLa x n) (Yc_markSyntaxS_sLa x n) ∧ (True → ObsEq [Ob.arr true 5 (List.map syntaxC (seqM mkY cY (Syntax.items x) n))] [Ob.arr true 5
 (List.map syntaxC (seqM mkY cY (Syntax.items x) n))] ∧ AV.sv (li (n + (↑(sumBy cY (Syntax.items x)) : Int))) = AV.sv (li (n + (↑(sumBy cY (Syntax.items x)) : Int)))) ∧ True) := by
 kernel_rfl
theorem c_markSyntaxS_s (x : Syntax) (n : Int) (h0 : 0 ≤ n) (h : n + sumBy cY x.items ≤ 2147483647) (ih : ∀ z ∈ x.items, ∀ (n : Int) (h0 : 0 ≤ n) (h : n + sumBy cY z.items ≤
 2147483647), P_c_markSyntaxS z n)  : P_c_markSyntaxS x n := by
  refine CallOK.ofRun wide (run_c_markSyntaxS_s x n) Try.call93 Try.func93 rfl rfl rfl ?_
  have gl := cY_len x.items
  with_reducible repeat' (first | apply And.intro | exact flatI | exact flatS | exact rowLens | exact ih | (intro; skip) | apply obsN | apply obsC | apply obA | apply obM | apply obB | apply svA | apply tupA | apply lcA | apply lcS | apply svC | apply liC | apply lbC | apply lsC | apply vIc | apply vBc | apply vSc | apply vLc | apply mapC | apply Hc_markSyntaxS_sLa | apply Ec_markSyntaxS_sLa | apply Sc_markSyntaxS_sLa | apply EW0c_markSyntaxS_sLa | apply c_markText | apply c_markIntS)
  all_goals (try simp only [std, stdM] at *)
  all_goals (try (first | with_reducible rfl | omega | assumption | (refine (decide_eq_true ?_).symm; assumption) | (refine (decide_eq_false ?_).symm; assumption) | (refine rowGet ?_; (first | omega | (simp only [std, stdM]; omega) | grind)) | (refine getC ?_ rfl; (first | omega | (simp only [std, stdM]; omega) | grind)) | (refine fill_step ?_ ?_; (first | omega | (simp only [std, stdM]; omega) | grind); (first | rfl | exact (Row.eq _).trans rfl)) | (refine fill_init ?_; (first | rfl | exact (Row.eq _).trans rfl)) | (refine set_row ?_; (simp only [List.length_map, List.length_set, mkTo_len]; omega)) | (refine mkToRow ?_; (first | omega | (simp only [std, stdM]; omega) | grind)) | (refine mkTo_row ?_ rfl; (first | omega | (simp only [std, stdM]; omega) | grind)) | (refine mkTo_step ?_ ?_; (first | omega | (simp only [std, stdM]; omega) | grind); (first | grind [mkTo_all, snocI, snocS, rowSnoc])) | grind [mkTo_all, snocI, snocS, rowSnoc]))
theorem c_markSyntaxS (x : Syntax) : ∀ (n : Int) (h0 : 0 ≤ n) (h : n + sumBy cY x.items ≤ 2147483647), P_c_markSyntaxS x n := Syntax.ind (P := fun x => ∀ (n : Int) (h0 : 0 ≤ n) (h : n + sumBy cY x.items ≤ 2147483647), P_c_markSyntaxS x n) (fun x ih n h0 h => c_markSyntaxS_s x n h0 h ih) x
theorem c_markSyntaxSL (L : List Syntax) (n : Int) (h0 : 0 ≤ n) (h : n + sumBy cY L ≤ 2147483647) : P_c_markSyntaxS { (default : Syntax) with items := L } n := c_markSyntaxS { (default : Syntax) with items := L } n h0 h

abbrev P_c_markSyntax (x : Syntax) (n : Int) : Prop := CallOK Try.prog 94 [.arr true 1 (x.scopes.map intC), .arr true 5 (x.items.map syntaxC)] [.agg [vI x.kind, vI x.number, vS x.text, .ref 0, .ref 1], li n] [.arr true 1 ((seqM mkI cOne x.scopes (n)).map intC), .arr true 5 ((seqM mkY cY x.items (n + x.scopes.length)).map syntaxC)] (.sv (li (n + x.scopes.length + sumBy cY x.items)))
theorem run_c_markSyntax (x : Syntax) (n : Int) : aexec Try.prog (Option.getD (Func.body Try.f94) Code.skip) (entry [Ob.arr true 1 (List.map intC (Syntax.scopes x)), Ob.arr true 5
 (List.map syntaxC (Syntax.items x))] [SV.agg [vI (Syntax.kind x), vI (Syntax.number x), vS (Syntax.text x), AC.ref 0, AC.ref 1], li n] 14) [Orc.call [Mode.own true 1, Mode.rd]
 [Ob.arr true 1 (List.map intC (seqM mkI cOne (Syntax.scopes x) n))] (AV.sv (li (n + (↑(List.length (Syntax.scopes x)) : Int)))), Orc.call [Mode.own true 5, Mode.rd] [Ob.arr true 5
 (List.map syntaxC (seqM mkY cY (Syntax.items x) (n + (↑(List.length (Syntax.scopes x)) : Int))))] (AV.sv (li (n + (↑(List.length (Syntax.scopes x)) : Int) + (↑(sumBy cY
 (Syntax.items x)) : Int)))), Orc.fin []] (finK Try.prog [ResultVar.tmp 4] [Ob.arr true 1 (List.map intC (seqM mkI cOne (Syntax.scopes x) n)), Ob.arr true 5 (List.map syntaxC (seqM
 mkY cY (Syntax.items x) (n + (↑(List.length (Syntax.scopes x)) : Int))))] (AV.sv (li (n + (↑(List.length (Syntax.scopes x)) : Int) + (↑(sumBy cY (Syntax.items x)) : Int))))) =
 (P_c_markIntS (Syntax.scopes x) n ∧ CallOK Try.prog 93 [Ob.arr true 5 (List.map syntaxC (Syntax.items x))] [SV.one (AC.ref 0), li (n + (↑(List.length (Syntax.scopes x)) : Int))]
 [Ob.arr true 5 (List.map syntaxC (seqM mkY cY (Syntax.items x) (n + (↑(List.length (Syntax.scopes x)) : Int))))] (AV.sv (li (n + (↑(List.length (Syntax.scopes x)) : Int) +
 (↑(sumBy cY (Syntax.items x)) : Int)))) ∧ ObsEq [Ob.arr true 1 (List.map intC (seqM mkI cOne (Syntax.scopes x) n)), Ob.arr true 5 (List.map syntaxC (seqM mkY cY (Syntax.items x)
 (n + (↑(List.length (Syntax.scopes x)) : Int))))] [Ob.arr true 1 (List.map intC (seqM mkI cOne (Syntax.scopes x) n)), Ob.arr true 5 (List.map syntaxC (seqM mkY cY (Syntax.items x)
 (n + (↑(List.length (Syntax.scopes x)) : Int))))] ∧ AV.sv (li (n + (↑(List.length (Syntax.scopes x)) : Int) + (↑(sumBy cY (Syntax.items x)) : Int))) = AV.sv (li (n +
 (↑(List.length (Syntax.scopes x)) : Int) + (↑(sumBy cY (Syntax.items x)) : Int)))) := by kernel_rfl
theorem c_markSyntax (x : Syntax) (n : Int) (h0 : 0 ≤ n) (h : n + (x.scopes.length + sumBy cY x.items : Nat) ≤ 2147483647)  : P_c_markSyntax x n := by
  refine CallOK.ofRun wide (run_c_markSyntax x n) Try.call94 Try.func94 rfl rfl rfl ?_
  with_reducible repeat' (first | apply And.intro | exact flatI | exact flatS | exact rowLens | (intro; skip) | apply obsN | apply obsC | apply obA | apply obM | apply obB | apply svA | apply tupA | apply lcA | apply lcS | apply svC | apply liC | apply lbC | apply lsC | apply vIc | apply vBc | apply vSc | apply vLc | apply mapC | apply c_markIntS | apply c_markSyntaxS | apply c_markSyntaxSL)
  all_goals (try simp only [std, stdM] at *)
  all_goals (try (first | with_reducible rfl | omega | assumption | (refine (decide_eq_true ?_).symm; assumption) | (refine (decide_eq_false ?_).symm; assumption) | (refine rowGet ?_; (first | omega | (simp only [std, stdM]; omega) | grind)) | (refine getC ?_ rfl; (first | omega | (simp only [std, stdM]; omega) | grind)) | (refine fill_step ?_ ?_; (first | omega | (simp only [std, stdM]; omega) | grind); (first | rfl | exact (Row.eq _).trans rfl)) | (refine fill_init ?_; (first | rfl | exact (Row.eq _).trans rfl)) | (refine set_row ?_; (simp only [List.length_map, List.length_set, mkTo_len]; omega)) | (refine mkToRow ?_; (first | omega | (simp only [std, stdM]; omega) | grind)) | (refine mkTo_row ?_ rfl; (first | omega | (simp only [std, stdM]; omega) | grind)) | (refine mkTo_step ?_ ?_; (first | omega | (simp only [std, stdM]; omega) | grind); (first | grind [snocI, snocS, rowSnoc])) | grind [snocI, snocS, rowSnoc]))

abbrev P_c_markBindingS (L : List Binding) (n : Int) : Prop := CallOK Try.prog 122 [.arr true 4 (L.map bindingC)] [.one (.ref 0), li n] [.arr true 4 ((seqM mkB cB L n).map bindingC)] (.sv (li (n + sumBy cB L)))
def Tc_markBindingSLa (L : List Binding) (n : Int) (x0 : SV) (x1 : SV) (x2 : Ob) : St := St.mk (regsOf 42 [(0, AV.sv (SV.one (AC.ref 0))), (1, AV.sv x1), (5, AV.sv x0)]) [x2] 1 
def Lc_markBindingSLa (L : List Binding) (n : Int) (k : Nat) : St := Tc_markBindingSLa L n (li (↑k : Int)) (li (n + (↑(sumBy cB (List.take k L)) : Int))) (Ob.arr true 4 (List.map
 bindingC (mkTo mkB cB L n k))) 
def Ic_markBindingSLa (L : List Binding) (n : Int) : Nat → St → Prop := Head (Lc_markBindingSLa L n) (fun k => k ≤ List.length L ∧ List.length L ≤ 9223372036854775807) fun k =>
 List.length L - k 
def W0c_markBindingSLa (L : List Binding) (n : Int) (x0 : SV) (x1 : Ob) : St := St.mk (regsOf 42 [(1, AV.sv x0)]) [x1] 1 
def Yc_markBindingSLa (L : List Binding) (n : Int) : List (Prop × AEx × St) := [(True, AEx.exit 0, W0c_markBindingSLa L n (li (n + (↑(sumBy cB L) : Int))) (Ob.arr true 4 (List.map
 bindingC (seqM mkB cB L n))))]
theorem Hc_markBindingSLa {L : List Binding} {n : Int} {k : Nat} {m : Nat} (h : (fun k => k ≤ List.length L ∧ List.length L ≤ 9223372036854775807) k) (hm : (fun k => List.length L
 - k) k = m) : Ic_markBindingSLa L n m (Lc_markBindingSLa L n k) := hm ▸ Head.mk h
theorem Ec_markBindingSLa {L : List Binding} {n : Int} {k : Nat} {x0 : SV} {x1 : SV} {x2 : Ob} (h0 : x0 = (li (↑k : Int))) (h1 : x1 = (li (n + (↑(sumBy cB (List.take k L)) :
 Int)))) (h2 : x2 = (Ob.arr true 4 (List.map bindingC (mkTo mkB cB L n k)))) : Tc_markBindingSLa L n x0 x1 x2 = Lc_markBindingSLa L n k := by
  rw [h0, h1, h2]
  rfl
theorem EW0c_markBindingSLa {L : List Binding} {n : Int} {x0 y0 : SV} {x1 y1 : Ob} (h0 : x0 = y0) (h1 : x1 = y1) : W0c_markBindingSLa L n x0 x1 = W0c_markBindingSLa L n y0 y1 := by
 rw [h0, h1]
abbrev a5__markBindingSLa (L : List Binding) (k : Nat) := (List.getD L (Int.toNat (↑k : Int)) default)
abbrev a6__markBindingSLa (L : List Binding) (k : Nat) := (Binding.scopes (a5__markBindingSLa L k))
abbrev a7__markBindingSLa (L : List Binding) (n : Int) (k : Nat) := [cS (mText (n + (↑(sumBy cB (List.take k L)) : Int))), Cell.list (List.map intC (a6__markBindingSLa L k)), cI
 (Binding.kind (a5__markBindingSLa L k)), cI (Binding.number (a5__markBindingSLa L k))]
abbrev a1__markBindingSLa (L : List Binding) (n : Int) (k : Nat) := (List.set (List.map bindingC (mkTo mkB cB L n k)) (Int.toNat (↑k : Int)) (a7__markBindingSLa L n k))
abbrev a8__markBindingSLa (L : List Binding) (n : Int) (k : Nat) := (List.map intC (seqM mkI cOne (a6__markBindingSLa L k) (n + (↑(sumBy cB (List.take k L)) : Int) + 1)))
abbrev a2__markBindingSLa (L : List Binding) (n : Int) (k : Nat) := [cS (mText (n + (↑(sumBy cB (List.take k L)) : Int))), Cell.list (a8__markBindingSLa L n k), cI (n + (↑(sumBy cB
 (List.take k L)) : Int) + 1 + (↑(List.length (a6__markBindingSLa L k)) : Int)), cI (Binding.number (a5__markBindingSLa L k))]
abbrev a3__markBindingSLa (L : List Binding) (n : Int) (k : Nat) := [cS (mText (n + (↑(sumBy cB (List.take k L)) : Int))), Cell.list (a8__markBindingSLa L n k), cI (n + (↑(sumBy cB
 (List.take k L)) : Int) + 1 + (↑(List.length (a6__markBindingSLa L k)) : Int)), cI (n + (↑(sumBy cB (List.take k L)) : Int) + 1 + (↑(List.length (a6__markBindingSLa L k)) : Int) +
 1)]
abbrev a4__markBindingSLa (L : List Binding) (n : Int) (k : Nat) := [cS (mText (n + (↑(sumBy cB (List.take k L)) : Int))), Cell.list (a8__markBindingSLa L n k), cI (Binding.kind
 (a5__markBindingSLa L k)), cI (Binding.number (a5__markBindingSLa L k))]
theorem run_c_markBindingSLa (L : List Binding) (n : Int) (k : Nat) : aexec Try.prog (loopAt Try.f122 0) (Lc_markBindingSLa L n k) [Orc.br [Orc.call [Mode.rd] [] (AV.sv (ls (mText
 (n + (↑(sumBy cB (List.take k L)) : Int))))), Orc.cells (bindingF (a5__markBindingSLa L k)), Orc.sub, Orc.subcall (a7__markBindingSLa L n k) (List.map intC (a6__markBindingSLa L
 k)) 1, Orc.call [Mode.own true 1, Mode.rd] [Ob.arr true 1 (a8__markBindingSLa L n k)] (AV.sv (li (n + (↑(sumBy cB (List.take k L)) : Int) + 1 + (↑(List.length (a6__markBindingSLa
 L k)) : Int)))), Orc.take (a4__markBindingSLa L n k) (List.set (a1__markBindingSLa L n k) (Int.toNat (↑k : Int)) (a2__markBindingSLa L n k)) 0, Orc.take (a2__markBindingSLa L n k)
 (List.set (a1__markBindingSLa L n k) (Int.toNat (↑k : Int)) (a3__markBindingSLa L n k)) 0, Orc.ghost (Ghost.sel [0] [0, 1, 5]), Orc.goto (List.length L - (k + 1))
 (Lc_markBindingSLa L n (k + 1))] [Orc.ghost (Ghost.sel [0] [1]), Orc.out 0]] (loopK (Ic_markBindingSLa L n) (Yc_markBindingSLa L n) (List.length L - k)) = (List.length (List.map
 bindingC (mkTo mkB cB L n k)) ≤ 9223372036854775807 → (decide ((↑k : Int) < (↑(List.length (List.map bindingC (mkTo mkB cB L n k))) : Int)) = true → P_c_markText (n + (↑(sumBy cB
 (List.take k L)) : Int)) ∧ (0 ≤ (↑k : Int) ∧ Int.toNat (↑k : Int) < List.length (List.map bindingC (mkTo mkB cB L n k))) ∧ (List.map bindingC (mkTo mkB cB L n k))[Int.toNat (↑k :
 Int)]? = some (bindingF (a5__markBindingSLa L k)) ∧ rng IntKind.i64 (n + (↑(sumBy cB (List.take k L)) : Int) + 1) ∧ (0 ≤ (↑k : Int) ∧ Int.toNat (↑k : Int) < List.length
 (a1__markBindingSLa L n k)) ∧ Int.toNat (↑k : Int) < List.length (a1__markBindingSLa L n k) ∧ (a1__markBindingSLa L n k)[Int.toNat (↑k : Int)]? = some (a7__markBindingSLa L n k) ∧
 some (Cell.list (List.map intC (a6__markBindingSLa L k))) = some (Cell.list (List.map intC (a6__markBindingSLa L k))) ∧ (∀ (x : List Cell), x ∈ List.map intC (a6__markBindingSLa L
 k) → List.length x = 1) ∧ P_c_markIntS (a6__markBindingSLa L k) (n + (↑(sumBy cB (List.take k L)) : Int) + 1) ∧ (0 ≤ (↑k : Int) ∧ Int.toNat (↑k : Int) < List.length (List.set
 (a1__markBindingSLa L n k) (Int.toNat (↑k : Int)) (a4__markBindingSLa L n k))) ∧ (List.set (a1__markBindingSLa L n k) (Int.toNat (↑k : Int)) (a4__markBindingSLa L n k))[Int.toNat
 (↑k : Int)]? = some (a4__markBindingSLa L n k) ∧ List.set (List.set (a1__markBindingSLa L n k) (Int.toNat (↑k : Int)) (a4__markBindingSLa L n k)) (Int.toNat (↑k : Int))
 (a2__markBindingSLa L n k) = List.set (a1__markBindingSLa L n k) (Int.toNat (↑k : Int)) (a2__markBindingSLa L n k) ∧ rng IntKind.i64 (n + (↑(sumBy cB (List.take k L)) : Int) + 1 +
 (↑(List.length (a6__markBindingSLa L k)) : Int) + 1) ∧ (0 ≤ (↑k : Int) ∧ Int.toNat (↑k : Int) < List.length (List.set (a1__markBindingSLa L n k) (Int.toNat (↑k : Int))
 (a2__markBindingSLa L n k))) ∧ (List.set (a1__markBindingSLa L n k) (Int.toNat (↑k : Int)) (a2__markBindingSLa L n k))[Int.toNat (↑k : Int)]? = some (a2__markBindingSLa L n k) ∧
 List.set (List.set (a1__markBindingSLa L n k) (Int.toNat (↑k : Int)) (a2__markBindingSLa L n k)) (Int.toNat (↑k : Int)) (a3__markBindingSLa L n k) = List.set (a1__markBindingSLa L
 n k) (Int.toNat (↑k : Int)) (a3__markBindingSLa L n k) ∧ rng IntKind.i64 (n + (↑(sumBy cB (List.take k L)) : Int) + 1 + (↑(List.length (a6__markBindingSLa L k)) : Int) + 1 + 1) ∧
 rng IntKind.i64 ((↑k : Int) + 1) ∧ List.length L - (k + 1) < List.length L - k ∧ Tc_markBindingSLa L n (li ((↑k : Int) + 1)) (li (n + (↑(sumBy cB (List.take k L)) : Int) + 1 +
 (↑(List.length (a6__markBindingSLa L k)) : Int) + 1 + 1)) (Ob.arr true 4 (List.set (a1__markBindingSLa L n k) (Int.toNat (↑k : Int)) (a3__markBindingSLa L n k))) =
 Lc_markBindingSLa L n (k + 1) ∧ Ic_markBindingSLa L n (List.length L - (k + 1)) (Lc_markBindingSLa L n (k + 1))) ∧ (decide ((↑k : Int) < (↑(List.length (List.map bindingC (mkTo
 mkB cB L n k))) : Int)) = false → True ∧ W0c_markBindingSLa L n (li (n + (↑(sumBy cB (List.take k L)) : Int))) (Ob.arr true 4 (List.map bindingC (mkTo mkB cB L n k))) =
 W0c_markBindingSLa L n (li (n + (↑(sumBy cB L) : Int))) (Ob.arr true 4 (List.map bindingC (seqM mkB cB L n))))) := by kernel_rfl
theorem Sc_markBindingSLa (L : List Binding) (n : Int) (h0 : 0 ≤ n) (h : n + (↑(sumBy cB L) : Int) ≤ 2147483647)  : LoopSem Try.prog (loopAt Try.f122 0) (Ic_markBindingSLa L n)
 (Yc_markBindingSLa L n) := by
  refine LoopSem.ofHead wide fun k h => ⟨_, _, run_c_markBindingSLa L n k, ?_⟩
  try delta a5__markBindingSLa a6__markBindingSLa a7__markBindingSLa a1__markBindingSLa a8__markBindingSLa a2__markBindingSLa a3__markBindingSLa a4__markBindingSLa
  have g0 := sumBy_takeLe cB L (k + 1)
  with_reducible repeat' (first | apply And.intro | exact flatI | exact flatS | exact rowLens | (intro; skip) | apply obsN | apply obsC | apply obA | apply obM | apply obB | apply svA | apply tupA | apply lcA | apply lcS | apply svC | apply liC | apply lbC | apply lsC | apply vIc | apply vBc | apply vSc | apply vLc | apply mapC | apply Hc_markBindingSLa | apply Ec_markBindingSLa | apply EW0c_markBindingSLa | apply c_markText | apply c_markIntS)
  all_goals (try simp only [std, stdM] at *)
  all_goals (try (first | with_reducible rfl | omega | assumption | (refine (decide_eq_true ?_).symm; assumption) | (refine (decide_eq_false ?_).symm; assumption) | (refine rowGet ?_; (first | omega | (simp only [std, stdM]; omega) | grind)) | (refine getC ?_ rfl; (first | omega | (simp only [std, stdM]; omega) | grind)) | (refine fill_step ?_ ?_; (first | omega | (simp only [std, stdM]; omega) | grind); (first | rfl | exact (Row.eq _).trans rfl)) | (refine fill_init ?_; (first | rfl | exact (Row.eq _).trans rfl)) | (refine set_row ?_; (simp only [List.length_map, List.length_set, mkTo_len]; omega)) | (refine mkToRow ?_; (first | omega | (simp only [std, stdM]; omega) | grind)) | (refine mkTo_row ?_ rfl; (first | omega | (simp only [std, stdM]; omega) | grind)) | (refine mkTo_step ?_ ?_; (first | omega | (simp only [std, stdM]; omega) | grind); (first | exact mkB_C _ _ | grind [sumBy_step, getD_mem', cB_eq, mkB_C, mkTo_all, snocI, snocS, rowSnoc])) | grind [sumBy_step, getD_mem', cB_eq, mkB_C, mkTo_all, snocI, snocS, rowSnoc]))
theorem run_c_markBindingS (L : List Binding) (n : Int) : aexec Try.prog (Option.getD (Func.body Try.f122) Code.skip) (entry [Ob.arr true 4 (List.map bindingC L)] [SV.one (AC.ref
 0), li n] 42) [Orc.ghost (Ghost.sel [0] [0, 1, 5]), Orc.loop (List.length L - 0) (Lc_markBindingSLa L n 0) (Ic_markBindingSLa L n) [(True, AEx.exit 0, W0c_markBindingSLa L n (li
 (n + (↑(sumBy cB L) : Int))) (Ob.arr true 4 (List.map bindingC (seqM mkB cB L n))), [Orc.fin []])]] (finK Try.prog [ResultVar.tmp 4] [Ob.arr true 4 (List.map bindingC (seqM mkB cB
 L n))] (AV.sv (li (n + (↑(sumBy cB L) : Int))))) = (Tc_markBindingSLa L n (li 0) (li n) (Ob.arr true 4 (List.map bindingC L)) = Lc_markBindingSLa L n 0 ∧ Ic_markBindingSLa L n
 (List.length L - 0) (Lc_markBindingSLa L n 0) ∧ LoopSem Try.prog (loopAt Try.f122 0) (Ic_markBindingSLa L n) (Yc_markBindingSLa L n) ∧ (True → ObsEq [Ob.arr true 4 (List.map
 bindingC (seqM mkB cB L n))] [Ob.arr true 4 (List.map bindingC (seqM mkB cB L n))] ∧ AV.sv (li (n + (↑(sumBy cB L) : Int))) = AV.sv (li (n + (↑(sumBy cB L) : Int)))) ∧ True) := by
 kernel_rfl
theorem c_markBindingS (L : List Binding) (n : Int) (h0 : 0 ≤ n) (h : n + sumBy cB L ≤ 2147483647)  : P_c_markBindingS L n := by
  refine CallOK.ofRun wide (run_c_markBindingS L n) Try.call122 Try.func122 rfl rfl rfl ?_
  have gl := cB_len L
  with_reducible repeat' (first | apply And.intro | exact flatI | exact flatS | exact rowLens | (intro; skip) | apply obsN | apply obsC | apply obA | apply obM | apply obB | apply svA | apply tupA | apply lcA | apply lcS | apply svC | apply liC | apply lbC | apply lsC | apply vIc | apply vBc | apply vSc | apply vLc | apply mapC | apply Hc_markBindingSLa | apply Ec_markBindingSLa | apply Sc_markBindingSLa | apply EW0c_markBindingSLa | apply c_markText | apply c_markIntS)
  all_goals (try simp only [std, stdM] at *)
  all_goals (try (first | with_reducible rfl | omega | assumption | (refine (decide_eq_true ?_).symm; assumption) | (refine (decide_eq_false ?_).symm; assumption) | (refine rowGet ?_; (first | omega | (simp only [std, stdM]; omega) | grind)) | (refine getC ?_ rfl; (first | omega | (simp only [std, stdM]; omega) | grind)) | (refine fill_step ?_ ?_; (first | omega | (simp only [std, stdM]; omega) | grind); (first | rfl | exact (Row.eq _).trans rfl)) | (refine fill_init ?_; (first | rfl | exact (Row.eq _).trans rfl)) | (refine set_row ?_; (simp only [List.length_map, List.length_set, mkTo_len]; omega)) | (refine mkToRow ?_; (first | omega | (simp only [std, stdM]; omega) | grind)) | (refine mkTo_row ?_ rfl; (first | omega | (simp only [std, stdM]; omega) | grind)) | (refine mkTo_step ?_ ?_; (first | omega | (simp only [std, stdM]; omega) | grind); (first | grind [mkTo_all, snocI, snocS, rowSnoc])) | grind [mkTo_all, snocI, snocS, rowSnoc]))

abbrev P_c_markRulesS (L : List Rules) (n : Int) : Prop := CallOK Try.prog 123 [.arr true 3 (L.map rulesC)] [.one (.ref 0), li n] [.arr true 3 ((seqM mkR cR L n).map rulesC)] (.sv (li (n + sumBy cR L)))
def Tc_markRulesSLa (L : List Rules) (n : Int) (x0 : SV) (x1 : SV) (x2 : Ob) : St := St.mk (regsOf 34 [(0, AV.sv (SV.one (AC.ref 0))), (1, AV.sv x1), (5, AV.sv x0)]) [x2] 1 
def Lc_markRulesSLa (L : List Rules) (n : Int) (k : Nat) : St := Tc_markRulesSLa L n (li (↑k : Int)) (li (n + (↑(sumBy cR (List.take k L)) : Int))) (Ob.arr true 3 (List.map rulesC
 (mkTo mkR cR L n k))) 
def Ic_markRulesSLa (L : List Rules) (n : Int) : Nat → St → Prop := Head (Lc_markRulesSLa L n) (fun k => k ≤ List.length L ∧ List.length L ≤ 9223372036854775807) fun k =>
 List.length L - k 
def W0c_markRulesSLa (L : List Rules) (n : Int) (x0 : SV) (x1 : Ob) : St := St.mk (regsOf 34 [(1, AV.sv x0)]) [x1] 1 
def Yc_markRulesSLa (L : List Rules) (n : Int) : List (Prop × AEx × St) := [(True, AEx.exit 0, W0c_markRulesSLa L n (li (n + (↑(sumBy cR L) : Int))) (Ob.arr true 3 (List.map rulesC
 (seqM mkR cR L n))))]
theorem Hc_markRulesSLa {L : List Rules} {n : Int} {k : Nat} {m : Nat} (h : (fun k => k ≤ List.length L ∧ List.length L ≤ 9223372036854775807) k) (hm : (fun k => List.length L - k)
 k = m) : Ic_markRulesSLa L n m (Lc_markRulesSLa L n k) := hm ▸ Head.mk h
theorem Ec_markRulesSLa {L : List Rules} {n : Int} {k : Nat} {x0 : SV} {x1 : SV} {x2 : Ob} (h0 : x0 = (li (↑k : Int))) (h1 : x1 = (li (n + (↑(sumBy cR (List.take k L)) : Int))))
 (h2 : x2 = (Ob.arr true 3 (List.map rulesC (mkTo mkR cR L n k)))) : Tc_markRulesSLa L n x0 x1 x2 = Lc_markRulesSLa L n k := by
  rw [h0, h1, h2]
  rfl
theorem EW0c_markRulesSLa {L : List Rules} {n : Int} {x0 y0 : SV} {x1 y1 : Ob} (h0 : x0 = y0) (h1 : x1 = y1) : W0c_markRulesSLa L n x0 x1 = W0c_markRulesSLa L n y0 y1 := by rw [h0,
 h1]
abbrev a8__markRulesSLa (L : List Rules) (k : Nat) := (Rules.literals (List.getD L k default))
abbrev a5__markRulesSLa (L : List Rules) (n : Int) (k : Nat) := (List.map syntaxC (seqM mkY cY (a8__markRulesSLa L k) (n + (↑(sumBy cR (List.take k L)) : Int))))
abbrev a7__markRulesSLa (L : List Rules) (k : Nat) := (Rules.templates (List.getD L k default))
abbrev a2__markRulesSLa (L : List Rules) (n : Int) (k : Nat) := [Cell.list (a5__markRulesSLa L n k), Cell.list (List.map syntaxC (Rules.patterns (List.getD L k default))),
 Cell.list (List.map syntaxC (a7__markRulesSLa L k))]
abbrev a9__markRulesSLa (L : List Rules) (n : Int) (k : Nat) := (List.set (List.map rulesC (mkTo mkR cR L n k)) (Int.toNat (↑k : Int)) (a2__markRulesSLa L n k))
abbrev a3__markRulesSLa (L : List Rules) (n : Int) (k : Nat) := (List.map syntaxC (seqM mkY cY (Rules.patterns (List.getD L k default)) (n + (↑(sumBy cR (List.take k L)) : Int) +
 (↑(sumBy cY (a8__markRulesSLa L k)) : Int))))
abbrev a10__markRulesSLa (L : List Rules) (n : Int) (k : Nat) := [Cell.list (a5__markRulesSLa L n k), Cell.list (a3__markRulesSLa L n k), Cell.list (List.map syntaxC
 (a7__markRulesSLa L k))]
abbrev a1__markRulesSLa (L : List Rules) (n : Int) (k : Nat) := (List.set (a9__markRulesSLa L n k) (Int.toNat (↑k : Int)) (a10__markRulesSLa L n k))
abbrev a4__markRulesSLa (L : List Rules) (n : Int) (k : Nat) := (n + (↑(sumBy cR (List.take k L)) : Int) + (↑(sumBy cY (a8__markRulesSLa L k)) : Int) + (↑(sumBy cY (Rules.patterns
 (List.getD L k default))) : Int))
abbrev a6__markRulesSLa (L : List Rules) (n : Int) (k : Nat) := (li (n + (↑(sumBy cR (List.take k L)) : Int) + (↑(sumBy cY (a8__markRulesSLa L k)) : Int) + (↑(sumBy cY
 (Rules.patterns (List.getD L k default))) : Int) + (↑(sumBy cY (a7__markRulesSLa L k)) : Int)))
theorem run_c_markRulesSLa (L : List Rules) (n : Int) (k : Nat) : aexec Try.prog (loopAt Try.f123 0) (Lc_markRulesSLa L n k) [Orc.br [Orc.sub, Orc.subcall (rulesF (List.getD L k
 default)) (List.map syntaxC (a8__markRulesSLa L k)) 5, Orc.call [Mode.own true 5, Mode.rd] [Ob.arr true 5 (a5__markRulesSLa L n k)] (AV.sv (li (n + (↑(sumBy cR (List.take k L)) :
 Int) + (↑(sumBy cY (a8__markRulesSLa L k)) : Int)))), Orc.sub, Orc.subcall (a2__markRulesSLa L n k) (List.map syntaxC (Rules.patterns (List.getD L k default))) 5, Orc.call
 [Mode.own true 5, Mode.rd] [Ob.arr true 5 (a3__markRulesSLa L n k)] (AV.sv (li (a4__markRulesSLa L n k))), Orc.sub, Orc.subcall (a10__markRulesSLa L n k) (List.map syntaxC
 (a7__markRulesSLa L k)) 5, Orc.call [Mode.own true 5, Mode.rd] [Ob.arr true 5 (List.map syntaxC (seqM mkY cY (a7__markRulesSLa L k) (a4__markRulesSLa L n k)))] (AV.sv
 (a6__markRulesSLa L n k)), Orc.ghost (Ghost.sel [0] [0, 1, 5]), Orc.goto (List.length L - (k + 1)) (Lc_markRulesSLa L n (k + 1))] [Orc.ghost (Ghost.sel [0] [1]), Orc.out 0]]
 (loopK (Ic_markRulesSLa L n) (Yc_markRulesSLa L n) (List.length L - k)) = (List.length (List.map rulesC (mkTo mkR cR L n k)) ≤ 9223372036854775807 → (decide ((↑k : Int) <
 (↑(List.length (List.map rulesC (mkTo mkR cR L n k))) : Int)) = true → (0 ≤ (↑k : Int) ∧ Int.toNat (↑k : Int) < List.length (List.map rulesC (mkTo mkR cR L n k))) ∧ Int.toNat (↑k
 : Int) < List.length (List.map rulesC (mkTo mkR cR L n k)) ∧ (List.map rulesC (mkTo mkR cR L n k))[Int.toNat (↑k : Int)]? = some (rulesF (List.getD L k default)) ∧ some (Cell.list
 (List.map syntaxC (a8__markRulesSLa L k))) = some (Cell.list (List.map syntaxC (a8__markRulesSLa L k))) ∧ (∀ (x : List Cell), x ∈ List.map syntaxC (a8__markRulesSLa L k) →
 List.length x = 5) ∧ CallOK Try.prog 93 [Ob.arr true 5 (List.map syntaxC (a8__markRulesSLa L k))] [SV.one (AC.ref 0), li (n + (↑(sumBy cR (List.take k L)) : Int))] [Ob.arr true 5
 (a5__markRulesSLa L n k)] (AV.sv (li (n + (↑(sumBy cR (List.take k L)) : Int) + (↑(sumBy cY (a8__markRulesSLa L k)) : Int)))) ∧ (0 ≤ (↑k : Int) ∧ Int.toNat (↑k : Int) <
 List.length (a9__markRulesSLa L n k)) ∧ Int.toNat (↑k : Int) < List.length (a9__markRulesSLa L n k) ∧ (a9__markRulesSLa L n k)[Int.toNat (↑k : Int)]? = some (a2__markRulesSLa L n
 k) ∧ some (Cell.list (List.map syntaxC (Rules.patterns (List.getD L k default)))) = some (Cell.list (List.map syntaxC (Rules.patterns (List.getD L k default)))) ∧ (∀ (x : List
 Cell), x ∈ List.map syntaxC (Rules.patterns (List.getD L k default)) → List.length x = 5) ∧ CallOK Try.prog 93 [Ob.arr true 5 (List.map syntaxC (Rules.patterns (List.getD L k
 default)))] [SV.one (AC.ref 0), li (n + (↑(sumBy cR (List.take k L)) : Int) + (↑(sumBy cY (a8__markRulesSLa L k)) : Int))] [Ob.arr true 5 (a3__markRulesSLa L n k)] (AV.sv (li
 (a4__markRulesSLa L n k))) ∧ (0 ≤ (↑k : Int) ∧ Int.toNat (↑k : Int) < List.length (a1__markRulesSLa L n k)) ∧ Int.toNat (↑k : Int) < List.length (a1__markRulesSLa L n k) ∧
 (a1__markRulesSLa L n k)[Int.toNat (↑k : Int)]? = some (a10__markRulesSLa L n k) ∧ some (Cell.list (List.map syntaxC (a7__markRulesSLa L k))) = some (Cell.list (List.map syntaxC
 (a7__markRulesSLa L k))) ∧ (∀ (x : List Cell), x ∈ List.map syntaxC (a7__markRulesSLa L k) → List.length x = 5) ∧ CallOK Try.prog 93 [Ob.arr true 5 (List.map syntaxC
 (a7__markRulesSLa L k))] [SV.one (AC.ref 0), li (a4__markRulesSLa L n k)] [Ob.arr true 5 (List.map syntaxC (seqM mkY cY (a7__markRulesSLa L k) (a4__markRulesSLa L n k)))] (AV.sv
 (a6__markRulesSLa L n k)) ∧ rng IntKind.i64 ((↑k : Int) + 1) ∧ List.length L - (k + 1) < List.length L - k ∧ Tc_markRulesSLa L n (li ((↑k : Int) + 1)) (a6__markRulesSLa L n k)
 (Ob.arr true 3 (List.set (a1__markRulesSLa L n k) (Int.toNat (↑k : Int)) [Cell.list (a5__markRulesSLa L n k), Cell.list (a3__markRulesSLa L n k), Cell.list (List.map syntaxC (seqM
 mkY cY (a7__markRulesSLa L k) (a4__markRulesSLa L n k)))])) = Lc_markRulesSLa L n (k + 1) ∧ Ic_markRulesSLa L n (List.length L - (k + 1)) (Lc_markRulesSLa L n (k + 1))) ∧ (decide
 ((↑k : Int) < (↑(List.length (List.map rulesC (mkTo mkR cR L n k))) : Int)) = false → True ∧ W0c_markRulesSLa L n (li (n + (↑(sumBy cR (List.take k L)) : Int))) (Ob.arr true 3
 (List.map rulesC (mkTo mkR cR L n k))) = W0c_markRulesSLa L n (li (n + (↑(sumBy cR L) : Int))) (Ob.arr true 3 (List.map rulesC (seqM mkR cR L n))))) := by kernel_rfl
theorem Sc_markRulesSLa (L : List Rules) (n : Int) (h0 : 0 ≤ n) (h : n + (↑(sumBy cR L) : Int) ≤ 2147483647) (h2 : List.length L ≤ 2147483647)  : LoopSem Try.prog (loopAt Try.f123
 0) (Ic_markRulesSLa L n) (Yc_markRulesSLa L n) := by
  refine LoopSem.ofHead wide fun k h => ⟨_, _, run_c_markRulesSLa L n k, ?_⟩
  try delta a8__markRulesSLa a5__markRulesSLa a7__markRulesSLa a2__markRulesSLa a9__markRulesSLa a3__markRulesSLa a10__markRulesSLa a1__markRulesSLa a4__markRulesSLa a6__markRulesSLa
  have g0 := sumBy_takeLe cR L (k + 1)
  with_reducible repeat' (first | apply And.intro | exact flatI | exact flatS | exact rowLens | (intro; skip) | apply obsN | apply obsC | apply obA | apply obM | apply obB | apply svA | apply tupA | apply lcA | apply lcS | apply svC | apply liC | apply lbC | apply lsC | apply vIc | apply vBc | apply vSc | apply vLc | apply mapC | apply Hc_markRulesSLa | apply Ec_markRulesSLa | apply EW0c_markRulesSLa | apply c_markSyntaxS | apply c_markSyntaxSL)
  all_goals (try simp only [std, stdM] at *)
  all_goals (try (first | with_reducible rfl | omega | assumption | (refine (decide_eq_true ?_).symm; assumption) | (refine (decide_eq_false ?_).symm; assumption) | (refine rowGet ?_; (first | omega | (simp only [std, stdM]; omega) | grind)) | (refine getC ?_ rfl; (first | omega | (simp only [std, stdM]; omega) | grind)) | (refine fill_step ?_ ?_; (first | omega | (simp only [std, stdM]; omega) | grind); (first | rfl | exact (Row.eq _).trans rfl)) | (refine fill_init ?_; (first | rfl | exact (Row.eq _).trans rfl)) | (refine set_row ?_; (simp only [List.length_map, List.length_set, mkTo_len]; omega)) | (refine mkToRow ?_; (first | omega | (simp only [std, stdM]; omega) | grind)) | (refine mkTo_row ?_ rfl; (first | omega | (simp only [std, stdM]; omega) | grind)) | (refine mkTo_step ?_ ?_; (first | omega | (simp only [std, stdM]; omega) | grind); (first | exact mkR_C _ _ | grind [sumBy_step, getD_mem', cR_eq, mkR_C, mkTo_all, snocI, snocS, rowSnoc])) | grind [sumBy_step, getD_mem', cR_eq, mkR_C, mkTo_all, snocI, snocS, rowSnoc]))
theorem run_c_markRulesS (L : List Rules) (n : Int) : aexec Try.prog (Option.getD (Func.body Try.f123) Code.skip) (entry [Ob.arr true 3 (List.map rulesC L)] [SV.one (AC.ref 0), li
 n] 34) [Orc.ghost (Ghost.sel [0] [0, 1, 5]), Orc.loop (List.length L - 0) (Lc_markRulesSLa L n 0) (Ic_markRulesSLa L n) [(True, AEx.exit 0, W0c_markRulesSLa L n (li (n + (↑(sumBy
 cR L) : Int))) (Ob.arr true 3 (List.map rulesC (seqM mkR cR L n))), [Orc.fin []])]] (finK Try.prog [ResultVar.tmp 4] [Ob.arr true 3 (List.map rulesC (seqM mkR cR L n))] (AV.sv (li
 (n + (↑(sumBy cR L) : Int))))) = (Tc_markRulesSLa L n (li 0) (li n) (Ob.arr true 3 (List.map rulesC L)) = Lc_markRulesSLa L n 0 ∧ Ic_markRulesSLa L n (List.length L - 0)
 (Lc_markRulesSLa L n 0) ∧ LoopSem Try.prog (loopAt Try.f123 0) (Ic_markRulesSLa L n) (Yc_markRulesSLa L n) ∧ (True → ObsEq [Ob.arr true 3 (List.map rulesC (seqM mkR cR L n))]
 [Ob.arr true 3 (List.map rulesC (seqM mkR cR L n))] ∧ AV.sv (li (n + (↑(sumBy cR L) : Int))) = AV.sv (li (n + (↑(sumBy cR L) : Int)))) ∧ True) := by kernel_rfl
theorem c_markRulesS (L : List Rules) (n : Int) (h0 : 0 ≤ n) (h : n + sumBy cR L ≤ 2147483647) (h2 : L.length ≤ 2147483647)  : P_c_markRulesS L n := by
  refine CallOK.ofRun wide (run_c_markRulesS L n) Try.call123 Try.func123 rfl rfl rfl ?_
  with_reducible repeat' (first | apply And.intro | exact flatI | exact flatS | exact rowLens | (intro; skip) | apply obsN | apply obsC | apply obA | apply obM | apply obB | apply svA | apply tupA | apply lcA | apply lcS | apply svC | apply liC | apply lbC | apply lsC | apply vIc | apply vBc | apply vSc | apply vLc | apply mapC | apply Hc_markRulesSLa | apply Ec_markRulesSLa | apply Sc_markRulesSLa | apply EW0c_markRulesSLa | apply c_markSyntaxS | apply c_markSyntaxSL)
  all_goals (try simp only [std, stdM] at *)
  all_goals (try (first | with_reducible rfl | omega | assumption | (refine (decide_eq_true ?_).symm; assumption) | (refine (decide_eq_false ?_).symm; assumption) | (refine rowGet ?_; (first | omega | (simp only [std, stdM]; omega) | grind)) | (refine getC ?_ rfl; (first | omega | (simp only [std, stdM]; omega) | grind)) | (refine fill_step ?_ ?_; (first | omega | (simp only [std, stdM]; omega) | grind); (first | rfl | exact (Row.eq _).trans rfl)) | (refine fill_init ?_; (first | rfl | exact (Row.eq _).trans rfl)) | (refine set_row ?_; (simp only [List.length_map, List.length_set, mkTo_len]; omega)) | (refine mkToRow ?_; (first | omega | (simp only [std, stdM]; omega) | grind)) | (refine mkTo_row ?_ rfl; (first | omega | (simp only [std, stdM]; omega) | grind)) | (refine mkTo_step ?_ ?_; (first | omega | (simp only [std, stdM]; omega) | grind); (first | grind [mkTo_all, snocI, snocS, rowSnoc])) | grind [mkTo_all, snocI, snocS, rowSnoc]))

abbrev P_c_markCaptureS (x : Capture) (n : Int) : Prop := CallOK Try.prog 95 [.arr true 12 (x.each.map captureC)] [.one (.ref 0), li n] [.arr true 12 ((seqM mkP cP x.each n).map captureC)] (.sv (li (n + sumBy cP x.each)))
def Tc_markCaptureS_sLa (x : Capture) (n : Int) (x0 : SV) (x1 : SV) (x2 : Ob) : St := St.mk (regsOf 109 [(0, AV.sv (SV.one (AC.ref 0))), (1, AV.sv x1), (5, AV.sv x0)]) [x2] 1 
def Lc_markCaptureS_sLa (x : Capture) (n : Int) (k : Nat) : St := Tc_markCaptureS_sLa x n (li (↑k : Int)) (li (n + (↑(sumBy cP (List.take k (Capture.each x))) : Int))) (Ob.arr true
 12 (List.map captureC (mkTo mkP cP (Capture.each x) n k))) 
def Ic_markCaptureS_sLa (x : Capture) (n : Int) : Nat → St → Prop := Head (Lc_markCaptureS_sLa x n) (fun k => k ≤ List.length (Capture.each x) ∧ List.length (Capture.each x) ≤
 9223372036854775807) fun k => List.length (Capture.each x) - k 
def W0c_markCaptureS_sLa (x : Capture) (n : Int) (x0 : SV) (x1 : Ob) : St := St.mk (regsOf 109 [(1, AV.sv x0)]) [x1] 1 
def Yc_markCaptureS_sLa (x : Capture) (n : Int) : List (Prop × AEx × St) := [(True, AEx.exit 0, W0c_markCaptureS_sLa x n (li (n + (↑(sumBy cP (Capture.each x)) : Int))) (Ob.arr
 true 12 (List.map captureC (seqM mkP cP (Capture.each x) n))))]
theorem Hc_markCaptureS_sLa {x : Capture} {n : Int} {k : Nat} {m : Nat} (h : (fun k => k ≤ List.length (Capture.each x) ∧ List.length (Capture.each x) ≤ 9223372036854775807) k) (hm
 : (fun k => List.length (Capture.each x) - k) k = m) : Ic_markCaptureS_sLa x n m (Lc_markCaptureS_sLa x n k) := hm ▸ Head.mk h
theorem Ec_markCaptureS_sLa {x : Capture} {n : Int} {k : Nat} {x0 : SV} {x1 : SV} {x2 : Ob} (h0 : x0 = (li (↑k : Int))) (h1 : x1 = (li (n + (↑(sumBy cP (List.take k (Capture.each
 x))) : Int)))) (h2 : x2 = (Ob.arr true 12 (List.map captureC (mkTo mkP cP (Capture.each x) n k)))) : Tc_markCaptureS_sLa x n x0 x1 x2 = Lc_markCaptureS_sLa x n k := by
  rw [h0, h1, h2]
  rfl
theorem EW0c_markCaptureS_sLa {x : Capture} {n : Int} {x0 y0 : SV} {x1 y1 : Ob} (h0 : x0 = y0) (h1 : x1 = y1) : W0c_markCaptureS_sLa x n x0 x1 = W0c_markCaptureS_sLa x n y0 y1 :=
 by rw [h0, h1]
abbrev a28__markCaptureS_sLa (x : Capture) (n : Int) (k : Nat) := (List.map captureC (mkTo mkP cP (Capture.each x) n k))
abbrev a11__markCaptureS_sLa (x : Capture) (k : Nat) := (↑(sumBy cP (List.take k (Capture.each x))) : Int)
abbrev a35__markCaptureS_sLa (x : Capture) (n : Int) (k : Nat) := (n + (a11__markCaptureS_sLa x k) + 1)
abbrev a34__markCaptureS_sLa (x : Capture) (n : Int) (k : Nat) := (n + (a11__markCaptureS_sLa x k) + 1 + 1)
abbrev a2__markCaptureS_sLa (x : Capture) (k : Nat) := (List.getD (Capture.each x) (Int.toNat (↑k : Int)) default)
abbrev a12__markCaptureS_sLa (x : Capture) (k : Nat) := (Capture.name (a2__markCaptureS_sLa x k))
abbrev a41__markCaptureS_sLa (x : Capture) (k : Nat) := (Syntax.scopes (a12__markCaptureS_sLa x k))
abbrev a36__markCaptureS_sLa (x : Capture) (k : Nat) := (List.map syntaxC (Syntax.items (a12__markCaptureS_sLa x k)))
abbrev a15__markCaptureS_sLa (x : Capture) (k : Nat) := (Capture.form (a2__markCaptureS_sLa x k))
abbrev a33__markCaptureS_sLa (x : Capture) (k : Nat) := (Syntax.scopes (a15__markCaptureS_sLa x k))
abbrev a37__markCaptureS_sLa (x : Capture) (k : Nat) := (List.map intC (a33__markCaptureS_sLa x k))
abbrev a32__markCaptureS_sLa (x : Capture) (k : Nat) := (List.map syntaxC (Syntax.items (a15__markCaptureS_sLa x k)))
abbrev a31__markCaptureS_sLa (x : Capture) (k : Nat) := (List.map captureC (Capture.each (a2__markCaptureS_sLa x k)))
abbrev a9__markCaptureS_sLa (x : Capture) (n : Int) (k : Nat) := [cI (n + (a11__markCaptureS_sLa x k)), cI (a35__markCaptureS_sLa x n k), cS (mText (a34__markCaptureS_sLa x n k)),
 Cell.list (List.map intC (a41__markCaptureS_sLa x k)), Cell.list (a36__markCaptureS_sLa x k), cI (Capture.depth (a2__markCaptureS_sLa x k)), cI (Syntax.kind (a15__markCaptureS_sLa
 x k)), cI (Syntax.number (a15__markCaptureS_sLa x k)), cS (Syntax.text (a15__markCaptureS_sLa x k)), Cell.list (a37__markCaptureS_sLa x k), Cell.list (a32__markCaptureS_sLa x k),
 Cell.list (a31__markCaptureS_sLa x k)]
abbrev a38__markCaptureS_sLa (x : Capture) (n : Int) (k : Nat) := (List.set (a28__markCaptureS_sLa x n k) (Int.toNat (↑k : Int)) (a9__markCaptureS_sLa x n k))
abbrev a21__markCaptureS_sLa (x : Capture) (n : Int) (k : Nat) := (List.map intC (seqM mkI cOne (a41__markCaptureS_sLa x k) (n + (a11__markCaptureS_sLa x k) + 1 + 1 + 1)))
abbrev a18__markCaptureS_sLa (x : Capture) (n : Int) (k : Nat) := [cI (n + (a11__markCaptureS_sLa x k)), cI (a35__markCaptureS_sLa x n k), cS (mText (a34__markCaptureS_sLa x n k)),
 Cell.list (a21__markCaptureS_sLa x n k), Cell.list (a36__markCaptureS_sLa x k), cI (Capture.depth (a2__markCaptureS_sLa x k)), cI (Syntax.kind (a15__markCaptureS_sLa x k)), cI
 (Syntax.number (a15__markCaptureS_sLa x k)), cS (Syntax.text (a15__markCaptureS_sLa x k)), Cell.list (a37__markCaptureS_sLa x k), Cell.list (a32__markCaptureS_sLa x k), Cell.list
 (a31__markCaptureS_sLa x k)]
abbrev a1__markCaptureS_sLa (x : Capture) (n : Int) (k : Nat) := (List.set (a38__markCaptureS_sLa x n k) (Int.toNat (↑k : Int)) (a18__markCaptureS_sLa x n k))
abbrev a14__markCaptureS_sLa (x : Capture) (k : Nat) := (↑(List.length (a41__markCaptureS_sLa x k)) : Int)
abbrev a20__markCaptureS_sLa (x : Capture) (n : Int) (k : Nat) := (List.map syntaxC (seqM mkY cY (Syntax.items (a12__markCaptureS_sLa x k)) (n + (a11__markCaptureS_sLa x k) + 1 + 1
 + 1 + (a14__markCaptureS_sLa x k))))
abbrev a17__markCaptureS_sLa (x : Capture) (k : Nat) := (↑(sumBy cY (Syntax.items (a12__markCaptureS_sLa x k))) : Int)
abbrev a23__markCaptureS_sLa (x : Capture) (n : Int) (k : Nat) := (n + (a11__markCaptureS_sLa x k) + 1 + 1 + 1 + (a14__markCaptureS_sLa x k) + (a17__markCaptureS_sLa x k))
abbrev a27__markCaptureS_sLa (x : Capture) (n : Int) (k : Nat) := (n + (a11__markCaptureS_sLa x k) + 1 + 1 + 1 + (a14__markCaptureS_sLa x k) + (a17__markCaptureS_sLa x k) + 1)
abbrev a30__markCaptureS_sLa (x : Capture) (n : Int) (k : Nat) := (n + (a11__markCaptureS_sLa x k) + 1 + 1 + 1 + (a14__markCaptureS_sLa x k) + (a17__markCaptureS_sLa x k) + 1 + 1)
abbrev a24__markCaptureS_sLa (x : Capture) (n : Int) (k : Nat) := (n + (a11__markCaptureS_sLa x k) + 1 + 1 + 1 + (a14__markCaptureS_sLa x k) + (a17__markCaptureS_sLa x k) + 1 + 1 +
 1)
abbrev a3__markCaptureS_sLa (x : Capture) (n : Int) (k : Nat) := [cI (n + (a11__markCaptureS_sLa x k)), cI (a35__markCaptureS_sLa x n k), cS (mText (a34__markCaptureS_sLa x n k)),
 Cell.list (a21__markCaptureS_sLa x n k), Cell.list (a20__markCaptureS_sLa x n k), cI (a23__markCaptureS_sLa x n k), cI (a27__markCaptureS_sLa x n k), cI (a30__markCaptureS_sLa x n
 k), cS (mText (a24__markCaptureS_sLa x n k)), Cell.list (a37__markCaptureS_sLa x k), Cell.list (a32__markCaptureS_sLa x k), Cell.list (a31__markCaptureS_sLa x k)]
abbrev a26__markCaptureS_sLa (x : Capture) (n : Int) (k : Nat) := (n + (a11__markCaptureS_sLa x k) + 1 + 1 + 1 + (a14__markCaptureS_sLa x k) + (a17__markCaptureS_sLa x k) + 1 + 1 +
 1 + 1)
abbrev a47__markCaptureS_sLa (x : Capture) (n : Int) (k : Nat) := (List.map intC (seqM mkI cOne (a33__markCaptureS_sLa x k) (a26__markCaptureS_sLa x n k)))
abbrev a4__markCaptureS_sLa (x : Capture) (n : Int) (k : Nat) := [cI (n + (a11__markCaptureS_sLa x k)), cI (a35__markCaptureS_sLa x n k), cS (mText (a34__markCaptureS_sLa x n k)),
 Cell.list (a21__markCaptureS_sLa x n k), Cell.list (a20__markCaptureS_sLa x n k), cI (a23__markCaptureS_sLa x n k), cI (a27__markCaptureS_sLa x n k), cI (a30__markCaptureS_sLa x n
 k), cS (mText (a24__markCaptureS_sLa x n k)), Cell.list (a47__markCaptureS_sLa x n k), Cell.list (a32__markCaptureS_sLa x k), Cell.list (a31__markCaptureS_sLa x k)]
abbrev a22__markCaptureS_sLa (x : Capture) (n : Int) (k : Nat) := (n + (a11__markCaptureS_sLa x k) + 1 + 1 + 1 + (a14__markCaptureS_sLa x k) + (a17__markCaptureS_sLa x k) + 1 + 1 +
 1 + 1 + (↑(List.length (a33__markCaptureS_sLa x k)) : Int))
abbrev a40__markCaptureS_sLa (x : Capture) (n : Int) (k : Nat) := (List.map syntaxC (seqM mkY cY (Syntax.items (a15__markCaptureS_sLa x k)) (a22__markCaptureS_sLa x n k)))
abbrev a5__markCaptureS_sLa (x : Capture) (n : Int) (k : Nat) := [cI (n + (a11__markCaptureS_sLa x k)), cI (a35__markCaptureS_sLa x n k), cS (mText (a34__markCaptureS_sLa x n k)),
 Cell.list (a21__markCaptureS_sLa x n k), Cell.list (a20__markCaptureS_sLa x n k), cI (a23__markCaptureS_sLa x n k), cI (a27__markCaptureS_sLa x n k), cI (a30__markCaptureS_sLa x n
 k), cS (mText (a24__markCaptureS_sLa x n k)), Cell.list (a47__markCaptureS_sLa x n k), Cell.list (a40__markCaptureS_sLa x n k), Cell.list (a31__markCaptureS_sLa x k)]
abbrev a6__markCaptureS_sLa (x : Capture) (n : Int) (k : Nat) := [cI (n + (a11__markCaptureS_sLa x k)), cI (a35__markCaptureS_sLa x n k), cS (mText (a34__markCaptureS_sLa x n k)),
 Cell.list (a21__markCaptureS_sLa x n k), Cell.list (a20__markCaptureS_sLa x n k), cI (a23__markCaptureS_sLa x n k), cI (a27__markCaptureS_sLa x n k), cI (a30__markCaptureS_sLa x n
 k), cS (Syntax.text (a15__markCaptureS_sLa x k)), Cell.list (a37__markCaptureS_sLa x k), Cell.list (a32__markCaptureS_sLa x k), Cell.list (a31__markCaptureS_sLa x k)]
abbrev a7__markCaptureS_sLa (x : Capture) (n : Int) (k : Nat) := [cI (n + (a11__markCaptureS_sLa x k)), cI (a35__markCaptureS_sLa x n k), cS (mText (a34__markCaptureS_sLa x n k)),
 Cell.list (a21__markCaptureS_sLa x n k), Cell.list (a20__markCaptureS_sLa x n k), cI (a23__markCaptureS_sLa x n k), cI (a27__markCaptureS_sLa x n k), cI (Syntax.number
 (a15__markCaptureS_sLa x k)), cS (Syntax.text (a15__markCaptureS_sLa x k)), Cell.list (a37__markCaptureS_sLa x k), Cell.list (a32__markCaptureS_sLa x k), Cell.list
 (a31__markCaptureS_sLa x k)]
abbrev a8__markCaptureS_sLa (x : Capture) (n : Int) (k : Nat) := [cI (n + (a11__markCaptureS_sLa x k)), cI (a35__markCaptureS_sLa x n k), cS (mText (a34__markCaptureS_sLa x n k)),
 Cell.list (a21__markCaptureS_sLa x n k), Cell.list (a20__markCaptureS_sLa x n k), cI (a23__markCaptureS_sLa x n k), cI (Syntax.kind (a15__markCaptureS_sLa x k)), cI (Syntax.number
 (a15__markCaptureS_sLa x k)), cS (Syntax.text (a15__markCaptureS_sLa x k)), Cell.list (a37__markCaptureS_sLa x k), Cell.list (a32__markCaptureS_sLa x k), Cell.list
 (a31__markCaptureS_sLa x k)]
abbrev a10__markCaptureS_sLa (x : Capture) (n : Int) (k : Nat) := [cI (n + (a11__markCaptureS_sLa x k)), cI (a35__markCaptureS_sLa x n k), cS (Syntax.text (a12__markCaptureS_sLa x
 k)), Cell.list (List.map intC (a41__markCaptureS_sLa x k)), Cell.list (a36__markCaptureS_sLa x k), cI (Capture.depth (a2__markCaptureS_sLa x k)), cI (Syntax.kind
 (a15__markCaptureS_sLa x k)), cI (Syntax.number (a15__markCaptureS_sLa x k)), cS (Syntax.text (a15__markCaptureS_sLa x k)), Cell.list (a37__markCaptureS_sLa x k), Cell.list
 (a32__markCaptureS_sLa x k), Cell.list (a31__markCaptureS_sLa x k)]
abbrev a13__markCaptureS_sLa (x : Capture) (n : Int) (k : Nat) := [cI (n + (a11__markCaptureS_sLa x k)), cI (a35__markCaptureS_sLa x n k), cS (mText (a34__markCaptureS_sLa x n k)),
 Cell.list (a21__markCaptureS_sLa x n k), Cell.list (a20__markCaptureS_sLa x n k), cI (Capture.depth (a2__markCaptureS_sLa x k)), cI (Syntax.kind (a15__markCaptureS_sLa x k)), cI
 (Syntax.number (a15__markCaptureS_sLa x k)), cS (Syntax.text (a15__markCaptureS_sLa x k)), Cell.list (a37__markCaptureS_sLa x k), Cell.list (a32__markCaptureS_sLa x k), Cell.list
 (a31__markCaptureS_sLa x k)]
abbrev a16__markCaptureS_sLa (x : Capture) (n : Int) (k : Nat) := [cI (n + (a11__markCaptureS_sLa x k)), cI (Syntax.number (a12__markCaptureS_sLa x k)), cS (Syntax.text
 (a12__markCaptureS_sLa x k)), Cell.list (List.map intC (a41__markCaptureS_sLa x k)), Cell.list (a36__markCaptureS_sLa x k), cI (Capture.depth (a2__markCaptureS_sLa x k)), cI
 (Syntax.kind (a15__markCaptureS_sLa x k)), cI (Syntax.number (a15__markCaptureS_sLa x k)), cS (Syntax.text (a15__markCaptureS_sLa x k)), Cell.list (a37__markCaptureS_sLa x k),
 Cell.list (a32__markCaptureS_sLa x k), Cell.list (a31__markCaptureS_sLa x k)]
abbrev a19__markCaptureS_sLa (x : Capture) (n : Int) (k : Nat) := (n + (a11__markCaptureS_sLa x k) + 1 + 1 + 1 + (a14__markCaptureS_sLa x k) + (a17__markCaptureS_sLa x k) + 1 + 1 +
 1 + 1 + (↑(List.length (a33__markCaptureS_sLa x k)) : Int) + (↑(sumBy cY (Syntax.items (a15__markCaptureS_sLa x k))) : Int))
abbrev a39__markCaptureS_sLa (x : Capture) (n : Int) (k : Nat) := (List.set (a1__markCaptureS_sLa x n k) (Int.toNat (↑k : Int)) (a3__markCaptureS_sLa x n k))
abbrev a25__markCaptureS_sLa (x : Capture) (n : Int) (k : Nat) := (List.set (a39__markCaptureS_sLa x n k) (Int.toNat (↑k : Int)) (a4__markCaptureS_sLa x n k))
abbrev a29__markCaptureS_sLa (x : Capture) (n : Int) (k : Nat) := (li (n + (a11__markCaptureS_sLa x k) + 1 + 1 + 1 + (a14__markCaptureS_sLa x k) + (a17__markCaptureS_sLa x k) + 1 +
 1 + 1 + 1 + (↑(List.length (a33__markCaptureS_sLa x k)) : Int) + (↑(sumBy cY (Syntax.items (a15__markCaptureS_sLa x k))) : Int) + (↑(sumBy cP (Capture.each (a2__markCaptureS_sLa x
 k))) : Int)))
abbrev a42__markCaptureS_sLa (x : Capture) (n : Int) (k : Nat) := (List.set (a28__markCaptureS_sLa x n k) (Int.toNat (↑k : Int)) (a10__markCaptureS_sLa x n k))
abbrev a43__markCaptureS_sLa (x : Capture) (n : Int) (k : Nat) := (List.set (a25__markCaptureS_sLa x n k) (Int.toNat (↑k : Int)) (a5__markCaptureS_sLa x n k))
abbrev a44__markCaptureS_sLa (x : Capture) (n : Int) (k : Nat) := (List.set (a1__markCaptureS_sLa x n k) (Int.toNat (↑k : Int)) (a8__markCaptureS_sLa x n k))
abbrev a45__markCaptureS_sLa (x : Capture) (n : Int) (k : Nat) := (List.set (a1__markCaptureS_sLa x n k) (Int.toNat (↑k : Int)) (a7__markCaptureS_sLa x n k))
abbrev a46__markCaptureS_sLa (x : Capture) (n : Int) (k : Nat) := (List.set (a1__markCaptureS_sLa x n k) (Int.toNat (↑k : Int)) (a6__markCaptureS_sLa x n k))
theorem run_c_markCaptureS_sLa (x : Capture) (n : Int) (k : Nat) : aexec Try.prog (loopAt Try.f95 0) (Lc_markCaptureS_sLa x n k) [Orc.br [Orc.cells (captureF (a2__markCaptureS_sLa
 x k)), Orc.take (a16__markCaptureS_sLa x n k) (a42__markCaptureS_sLa x n k) 0, Orc.call [Mode.rd] [] (AV.sv (ls (mText (a34__markCaptureS_sLa x n k)))), Orc.take
 (a10__markCaptureS_sLa x n k) (a38__markCaptureS_sLa x n k) 0, Orc.sub, Orc.subcall (a9__markCaptureS_sLa x n k) (List.map intC (a41__markCaptureS_sLa x k)) 1, Orc.call [Mode.own
 true 1, Mode.rd] [Ob.arr true 1 (a21__markCaptureS_sLa x n k)] (AV.sv (li (n + (a11__markCaptureS_sLa x k) + 1 + 1 + 1 + (a14__markCaptureS_sLa x k)))), Orc.sub, Orc.subcall
 (a18__markCaptureS_sLa x n k) (a36__markCaptureS_sLa x k) 5, Orc.call [Mode.own true 5, Mode.rd] [Ob.arr true 5 (a20__markCaptureS_sLa x n k)] (AV.sv (li (a23__markCaptureS_sLa x
 n k))), Orc.take (a13__markCaptureS_sLa x n k) (a44__markCaptureS_sLa x n k) 0, Orc.take (a8__markCaptureS_sLa x n k) (a45__markCaptureS_sLa x n k) 0, Orc.take
 (a7__markCaptureS_sLa x n k) (a46__markCaptureS_sLa x n k) 0, Orc.call [Mode.rd] [] (AV.sv (ls (mText (a24__markCaptureS_sLa x n k)))), Orc.take (a6__markCaptureS_sLa x n k)
 (a39__markCaptureS_sLa x n k) 0, Orc.sub, Orc.subcall (a3__markCaptureS_sLa x n k) (a37__markCaptureS_sLa x k) 1, Orc.call [Mode.own true 1, Mode.rd] [Ob.arr true 1
 (a47__markCaptureS_sLa x n k)] (AV.sv (li (a22__markCaptureS_sLa x n k))), Orc.sub, Orc.subcall (a4__markCaptureS_sLa x n k) (a32__markCaptureS_sLa x k) 5, Orc.call [Mode.own true
 5, Mode.rd] [Ob.arr true 5 (a40__markCaptureS_sLa x n k)] (AV.sv (li (a19__markCaptureS_sLa x n k))), Orc.sub, Orc.subcall (a5__markCaptureS_sLa x n k) (a31__markCaptureS_sLa x k)
 12, Orc.call [Mode.own true 12, Mode.rd] [Ob.arr true 12 (List.map captureC (seqM mkP cP (Capture.each (a2__markCaptureS_sLa x k)) (a19__markCaptureS_sLa x n k)))] (AV.sv
 (a29__markCaptureS_sLa x n k)), Orc.ghost (Ghost.sel [0] [0, 1, 5]), Orc.goto (List.length (Capture.each x) - (k + 1)) (Lc_markCaptureS_sLa x n (k + 1))] [Orc.ghost (Ghost.sel [0]
 [1]), Orc.out 0]] (loopK (Ic_markCaptureS_sLa x n) (Yc_markCaptureS_sLa x n) (List.length (Capture.each x) - k)) = (List.length (a28__markCaptureS_sLa x n k) ≤ 9223372036854775807
 → (decide ((↑k : Int) < (↑(List.length (a28__markCaptureS_sLa x n k)) : Int)) = true → (0 ≤ (↑k : Int) ∧ Int.toNat (↑k : Int) < List.length (a28__markCaptureS_sLa x n k)) ∧
 (a28__markCaptureS_sLa x n k)[Int.toNat (↑k : Int)]? = some (captureF (a2__markCaptureS_sLa x k)) ∧ rng IntKind.i64 (a35__markCaptureS_sLa x n k) ∧ (0 ≤ (↑k : Int) ∧ Int.toNat (↑k
 : Int) < List.length (List.set (a28__markCaptureS_sLa x n k) (Int.toNat (↑k : Int)) (a16__markCaptureS_sLa x n k))) ∧ (List.set (a28__markCaptureS_sLa x n k) (Int.toNat (↑k :
 Int)) (a16__markCaptureS_sLa x n k))[Int.toNat (↑k : Int)]? = some (a16__markCaptureS_sLa x n k) ∧ List.set (List.set (a28__markCaptureS_sLa x n k) (Int.toNat (↑k : Int))
 (a16__markCaptureS_sLa x n k)) (Int.toNat (↑k : Int)) (a10__markCaptureS_sLa x n k) = List.set (a28__markCaptureS_sLa x n k) (Int.toNat (↑k : Int)) (a10__markCaptureS_sLa x n k) ∧
 rng IntKind.i64 (a34__markCaptureS_sLa x n k) ∧ P_c_markText (a34__markCaptureS_sLa x n k) ∧ (0 ≤ (↑k : Int) ∧ Int.toNat (↑k : Int) < List.length (a42__markCaptureS_sLa x n k)) ∧
 (a42__markCaptureS_sLa x n k)[Int.toNat (↑k : Int)]? = some (a10__markCaptureS_sLa x n k) ∧ List.set (a42__markCaptureS_sLa x n k) (Int.toNat (↑k : Int)) (a9__markCaptureS_sLa x n
 k) = List.set (a28__markCaptureS_sLa x n k) (Int.toNat (↑k : Int)) (a9__markCaptureS_sLa x n k) ∧ rng IntKind.i64 (n + (a11__markCaptureS_sLa x k) + 1 + 1 + 1) ∧ (0 ≤ (↑k : Int) ∧
 Int.toNat (↑k : Int) < List.length (a38__markCaptureS_sLa x n k)) ∧ Int.toNat (↑k : Int) < List.length (a38__markCaptureS_sLa x n k) ∧ (a38__markCaptureS_sLa x n k)[Int.toNat (↑k
 : Int)]? = some (a9__markCaptureS_sLa x n k) ∧ some (Cell.list (List.map intC (a41__markCaptureS_sLa x k))) = some (Cell.list (List.map intC (a41__markCaptureS_sLa x k))) ∧ (∀
 (x_1 : List Cell), x_1 ∈ List.map intC (a41__markCaptureS_sLa x k) → List.length x_1 = 1) ∧ P_c_markIntS (a41__markCaptureS_sLa x k) (n + (a11__markCaptureS_sLa x k) + 1 + 1 + 1)
 ∧ (0 ≤ (↑k : Int) ∧ Int.toNat (↑k : Int) < List.length (a1__markCaptureS_sLa x n k)) ∧ Int.toNat (↑k : Int) < List.length (a1__markCaptureS_sLa x n k) ∧ (a1__markCaptureS_sLa x n
 k)[Int.toNat (↑k : Int)]? = some (a18__markCaptureS_sLa x n k) ∧ some (Cell.list (a36__markCaptureS_sLa x k)) = some (Cell.list (a36__markCaptureS_sLa x k)) ∧ (∀ (x_1 : List
 Cell), x_1 ∈ List.map syntaxC (Syntax.items (a12__markCaptureS_sLa x k)) → List.length x_1 = 5) ∧ CallOK Try.prog 93 [Ob.arr true 5 (a36__markCaptureS_sLa x k)] [SV.one (AC.ref
 0), li (n + (a11__markCaptureS_sLa x k) + 1 + 1 + 1 + (a14__markCaptureS_sLa x k))] [Ob.arr true 5 (a20__markCaptureS_sLa x n k)] (AV.sv (li (a23__markCaptureS_sLa x n k))) ∧ (0 ≤
 (↑k : Int) ∧ Int.toNat (↑k : Int) < List.length (List.set (a1__markCaptureS_sLa x n k) (Int.toNat (↑k : Int)) (a13__markCaptureS_sLa x n k))) ∧ (List.set (a1__markCaptureS_sLa x n
 k) (Int.toNat (↑k : Int)) (a13__markCaptureS_sLa x n k))[Int.toNat (↑k : Int)]? = some (a13__markCaptureS_sLa x n k) ∧ List.set (List.set (a1__markCaptureS_sLa x n k) (Int.toNat
 (↑k : Int)) (a13__markCaptureS_sLa x n k)) (Int.toNat (↑k : Int)) (a8__markCaptureS_sLa x n k) = List.set (a1__markCaptureS_sLa x n k) (Int.toNat (↑k : Int)) (a8__markCaptureS_sLa
 x n k) ∧ rng IntKind.i64 (a27__markCaptureS_sLa x n k) ∧ (0 ≤ (↑k : Int) ∧ Int.toNat (↑k : Int) < List.length (a44__markCaptureS_sLa x n k)) ∧ (a44__markCaptureS_sLa x n
 k)[Int.toNat (↑k : Int)]? = some (a8__markCaptureS_sLa x n k) ∧ List.set (a44__markCaptureS_sLa x n k) (Int.toNat (↑k : Int)) (a7__markCaptureS_sLa x n k) = List.set
 (a1__markCaptureS_sLa x n k) (Int.toNat (↑k : Int)) (a7__markCaptureS_sLa x n k) ∧ rng IntKind.i64 (a30__markCaptureS_sLa x n k) ∧ (0 ≤ (↑k : Int) ∧ Int.toNat (↑k : Int) <
 List.length (a45__markCaptureS_sLa x n k)) ∧ (a45__markCaptureS_sLa x n k)[Int.toNat (↑k : Int)]? = some (a7__markCaptureS_sLa x n k) ∧ List.set (a45__markCaptureS_sLa x n k)
 (Int.toNat (↑k : Int)) (a6__markCaptureS_sLa x n k) = List.set (a1__markCaptureS_sLa x n k) (Int.toNat (↑k : Int)) (a6__markCaptureS_sLa x n k) ∧ rng IntKind.i64
 (a24__markCaptureS_sLa x n k) ∧ P_c_markText (a24__markCaptureS_sLa x n k) ∧ (0 ≤ (↑k : Int) ∧ Int.toNat (↑k : Int) < List.length (a46__markCaptureS_sLa x n k)) ∧
 (a46__markCaptureS_sLa x n k)[Int.toNat (↑k : Int)]? = some (a6__markCaptureS_sLa x n k) ∧ List.set (a46__markCaptureS_sLa x n k) (Int.toNat (↑k : Int)) (a3__markCaptureS_sLa x n
 k) = List.set (a1__markCaptureS_sLa x n k) (Int.toNat (↑k : Int)) (a3__markCaptureS_sLa x n k) ∧ rng IntKind.i64 (a26__markCaptureS_sLa x n k) ∧ (0 ≤ (↑k : Int) ∧ Int.toNat (↑k :
 Int) < List.length (a39__markCaptureS_sLa x n k)) ∧ Int.toNat (↑k : Int) < List.length (a39__markCaptureS_sLa x n k) ∧ (a39__markCaptureS_sLa x n k)[Int.toNat (↑k : Int)]? = some
 (a3__markCaptureS_sLa x n k) ∧ some (Cell.list (a37__markCaptureS_sLa x k)) = some (Cell.list (a37__markCaptureS_sLa x k)) ∧ (∀ (x_1 : List Cell), x_1 ∈ List.map intC
 (a33__markCaptureS_sLa x k) → List.length x_1 = 1) ∧ P_c_markIntS (a33__markCaptureS_sLa x k) (a26__markCaptureS_sLa x n k) ∧ (0 ≤ (↑k : Int) ∧ Int.toNat (↑k : Int) < List.length
 (a25__markCaptureS_sLa x n k)) ∧ Int.toNat (↑k : Int) < List.length (a25__markCaptureS_sLa x n k) ∧ (a25__markCaptureS_sLa x n k)[Int.toNat (↑k : Int)]? = some
 (a4__markCaptureS_sLa x n k) ∧ some (Cell.list (a32__markCaptureS_sLa x k)) = some (Cell.list (a32__markCaptureS_sLa x k)) ∧ (∀ (x_1 : List Cell), x_1 ∈ List.map syntaxC
 (Syntax.items (a15__markCaptureS_sLa x k)) → List.length x_1 = 5) ∧ CallOK Try.prog 93 [Ob.arr true 5 (a32__markCaptureS_sLa x k)] [SV.one (AC.ref 0), li (a22__markCaptureS_sLa x
 n k)] [Ob.arr true 5 (a40__markCaptureS_sLa x n k)] (AV.sv (li (a19__markCaptureS_sLa x n k))) ∧ (0 ≤ (↑k : Int) ∧ Int.toNat (↑k : Int) < List.length (a43__markCaptureS_sLa x n
 k)) ∧ Int.toNat (↑k : Int) < List.length (a43__markCaptureS_sLa x n k) ∧ (a43__markCaptureS_sLa x n k)[Int.toNat (↑k : Int)]? = some (a5__markCaptureS_sLa x n k) ∧ some (Cell.list
 (a31__markCaptureS_sLa x k)) = some (Cell.list (a31__markCaptureS_sLa x k)) ∧ (∀ (x_1 : List Cell), x_1 ∈ List.map captureC (Capture.each (a2__markCaptureS_sLa x k)) → List.length
 x_1 = 12) ∧ CallOK Try.prog 95 [Ob.arr true 12 (a31__markCaptureS_sLa x k)] [SV.one (AC.ref 0), li (a19__markCaptureS_sLa x n k)] [Ob.arr true 12 (List.map captureC (seqM mkP cP
 (Capture.each (a2__markCaptureS_sLa x k)) (a19__markCaptureS_sLa x n k)))] (AV.sv (a29__markCaptureS_sLa x n k)) ∧ rng IntKind.i64 ((↑k : Int) + 1) ∧ List.length (Capture.each x)
 - (k + 1) < List.length (Capture.each x) - k ∧ Tc_markCaptureS_sLa x n (li ((↑k : Int) + 1)) (a29__markCaptureS_sLa x n k) (Ob.arr true 12 (List.set (a43__markCaptureS_sLa x n k)
 (Int.toNat (↑k : Int)) [cI (n + (a11__markCaptureS_sLa x k)), cI (a35__markCaptureS_sLa x n k), cS (mText (a34__markCaptureS_sLa x n k)), Cell.list (a21__markCaptureS_sLa x n k),
 Cell.list (a20__markCaptureS_sLa x n k), cI (a23__markCaptureS_sLa x n k), cI (a27__markCaptureS_sLa x n k), cI (a30__markCaptureS_sLa x n k), cS (mText (a24__markCaptureS_sLa x n
 k)), Cell.list (a47__markCaptureS_sLa x n k), Cell.list (a40__markCaptureS_sLa x n k), Cell.list (List.map captureC (seqM mkP cP (Capture.each (a2__markCaptureS_sLa x k))
 (a19__markCaptureS_sLa x n k)))])) = Lc_markCaptureS_sLa x n (k + 1) ∧ Ic_markCaptureS_sLa x n (List.length (Capture.each x) - (k + 1)) (Lc_markCaptureS_sLa x n (k + 1))) ∧
 (decide ((↑k : Int) < (↑(List.length (a28__markCaptureS_sLa x n k)) : Int)) = false → True ∧ W0c_markCaptureS_sLa x n (li (n + (a11__markCaptureS_sLa x k))) (Ob.arr true 12
 (a28__markCaptureS_sLa x n k)) = W0c_markCaptureS_sLa x n (li (n + (↑(sumBy cP (Capture.each x)) : Int))) (Ob.arr true 12 (List.map captureC (seqM mkP cP (Capture.each x) n)))))
 := by kernel_rfl
theorem Sc_markCaptureS_sLa (x : Capture) (n : Int) (h0 : 0 ≤ n) (h : n + (↑(sumBy cP (Capture.each x)) : Int) ≤ 2147483647) (ih : ∀ (z : Capture), z ∈ Capture.each x → ∀ (n :
 Int), 0 ≤ n → n + (↑(sumBy cP (Capture.each z)) : Int) ≤ 2147483647 → P_c_markCaptureS z n)  : LoopSem Try.prog (loopAt Try.f95 0) (Ic_markCaptureS_sLa x n) (Yc_markCaptureS_sLa x
 n) := by
  refine LoopSem.ofHead wide fun k h => ⟨_, _, run_c_markCaptureS_sLa x n k, ?_⟩
  try delta a28__markCaptureS_sLa a11__markCaptureS_sLa a35__markCaptureS_sLa a34__markCaptureS_sLa a2__markCaptureS_sLa a12__markCaptureS_sLa a41__markCaptureS_sLa a36__markCaptureS_sLa a15__markCaptureS_sLa a33__markCaptureS_sLa a37__markCaptureS_sLa a32__markCaptureS_sLa a31__markCaptureS_sLa a9__markCaptureS_sLa a38__markCaptureS_sLa a21__markCaptureS_sLa a18__markCaptureS_sLa a1__markCaptureS_sLa a14__markCaptureS_sLa a20__markCaptureS_sLa a17__markCaptureS_sLa a23__markCaptureS_sLa a27__markCaptureS_sLa a30__markCaptureS_sLa a24__markCaptureS_sLa a3__markCaptureS_sLa a26__markCaptureS_sLa a47__markCaptureS_sLa a4__markCaptureS_sLa a22__markCaptureS_sLa a40__markCaptureS_sLa a5__markCaptureS_sLa a6__markCaptureS_sLa a7__markCaptureS_sLa a8__markCaptureS_sLa a10__markCaptureS_sLa a13__markCaptureS_sLa a16__markCaptureS_sLa a19__markCaptureS_sLa a39__markCaptureS_sLa a25__markCaptureS_sLa a29__markCaptureS_sLa a42__markCaptureS_sLa a43__markCaptureS_sLa a44__markCaptureS_sLa a45__markCaptureS_sLa a46__markCaptureS_sLa
  have g0 := sumBy_takeLe cP x.each (k + 1)
  with_reducible repeat' (first | apply And.intro | exact flatI | exact flatS | exact rowLens | exact ih | (intro; skip) | apply obsN | apply obsC | apply obA | apply obM | apply obB | apply svA | apply tupA | apply lcA | apply lcS | apply svC | apply liC | apply lbC | apply lsC | apply vIc | apply vBc | apply vSc | apply vLc | apply mapC | apply Hc_markCaptureS_sLa | apply Ec_markCaptureS_sLa | apply EW0c_markCaptureS_sLa | apply c_markText | apply c_markIntS | apply c_markSyntaxS | apply c_markSyntaxSL | apply ih)
  all_goals (try simp only [std, stdM] at *)
  all_goals (try (first | with_reducible rfl | omega | assumption | (refine (decide_eq_true ?_).symm; assumption) | (refine (decide_eq_false ?_).symm; assumption) | (refine rowGet ?_; (first | omega | (simp only [std, stdM]; omega) | grind)) | (refine getC ?_ rfl; (first | omega | (simp only [std, stdM]; omega) | grind)) | (refine fill_step ?_ ?_; (first | omega | (simp only [std, stdM]; omega) | grind); (first | rfl | exact (Row.eq _).trans rfl)) | (refine fill_init ?_; (first | rfl | exact (Row.eq _).trans rfl)) | (refine set_row ?_; (simp only [List.length_map, List.length_set, mkTo_len]; omega)) | (refine mkToRow ?_; (first | omega | (simp only [std, stdM]; omega) | grind)) | (refine mkTo_row ?_ rfl; (first | omega | (simp only [std, stdM]; omega) | grind)) | (refine mkTo_step ?_ ?_; (first | omega | (simp only [std, stdM]; omega) | grind); (first | exact mkP_C _ _ | grind [sumBy_step, getD_mem', cP_eq, mkP_C, mkTo_all, snocI, snocS, rowSnoc])) | grind [sumBy_step, getD_mem', cP_eq, mkP_C, mkTo_all, snocI, snocS, rowSnoc]))
theorem run_c_markCaptureS_s (x : Capture) (n : Int) : aexec Try.prog (Option.getD (Func.body Try.f95) Code.skip) (entry [Ob.arr true 12 (List.map captureC (Capture.each x))]
 [SV.one (AC.ref 0), li n] 109) [Orc.ghost (Ghost.sel [0] [0, 1, 5]), Orc.loop (List.length (Capture.each x) - 0) (Lc_markCaptureS_sLa x n 0) (Ic_markCaptureS_sLa x n) [(True,
 AEx.exit 0, W0c_markCaptureS_sLa x n (li (n + (↑(sumBy cP (Capture.each x)) : Int))) (Ob.arr true 12 (List.map captureC (seqM mkP cP (Capture.each x) n))), [Orc.fin []])]] (finK
 Try.prog [ResultVar.tmp 4] [Ob.arr true 12 (List.map captureC (seqM mkP cP (Capture.each x) n))] (AV.sv (li (n + (↑(sumBy cP (Capture.each x)) : Int))))) = (Tc_markCaptureS_sLa x
 n (li 0) (li n) (Ob.arr true 12 (List.map captureC (Capture.each x))) = Lc_markCaptureS_sLa x n 0 ∧ Ic_markCaptureS_sLa x n (List.length (Capture.each x) - 0) (Lc_markCaptureS_sLa
 x n 0) ∧ LoopSem Try.prog (loopAt Try.f95 0) (Ic_markCaptureS_sLa x n) (Yc_markCaptureS_sLa x n) ∧ (True → ObsEq [Ob.arr true 12 (List.map captureC (seqM mkP cP (Capture.each x)
 n))] [Ob.arr true 12 (List.map captureC (seqM mkP cP (Capture.each x) n))] ∧ AV.sv (li (n + (↑(sumBy cP (Capture.each x)) : Int))) = AV.sv (li (n + (↑(sumBy cP (Capture.each x)) :
 Int)))) ∧ True) := by kernel_rfl
theorem c_markCaptureS_s (x : Capture) (n : Int) (h0 : 0 ≤ n) (h : n + sumBy cP x.each ≤ 2147483647) (ih : ∀ z ∈ x.each, ∀ (n : Int) (h0 : 0 ≤ n) (h : n + sumBy cP z.each ≤
 2147483647), P_c_markCaptureS z n)  : P_c_markCaptureS x n := by
  refine CallOK.ofRun wide (run_c_markCaptureS_s x n) Try.call95 Try.func95 rfl rfl rfl ?_
  have gl := cP_len x.each
  with_reducible repeat' (first | apply And.intro | exact flatI | exact flatS | exact rowLens | exact ih | (intro; skip) | apply obsN | apply obsC | apply obA | apply obM | apply obB | apply svA | apply tupA | apply lcA | apply lcS | apply svC | apply liC | apply lbC | apply lsC | apply vIc | apply vBc | apply vSc | apply vLc | apply mapC | apply Hc_markCaptureS_sLa | apply Ec_markCaptureS_sLa | apply Sc_markCaptureS_sLa | apply EW0c_markCaptureS_sLa | apply c_markText | apply c_markIntS | apply c_markSyntaxS | apply c_markSyntaxSL)
  all_goals (try simp only [std, stdM] at *)
  all_goals (try (first | with_reducible rfl | omega | assumption | (refine (decide_eq_true ?_).symm; assumption) | (refine (decide_eq_false ?_).symm; assumption) | (refine rowGet ?_; (first | omega | (simp only [std, stdM]; omega) | grind)) | (refine getC ?_ rfl; (first | omega | (simp only [std, stdM]; omega) | grind)) | (refine fill_step ?_ ?_; (first | omega | (simp only [std, stdM]; omega) | grind); (first | rfl | exact (Row.eq _).trans rfl)) | (refine fill_init ?_; (first | rfl | exact (Row.eq _).trans rfl)) | (refine set_row ?_; (simp only [List.length_map, List.length_set, mkTo_len]; omega)) | (refine mkToRow ?_; (first | omega | (simp only [std, stdM]; omega) | grind)) | (refine mkTo_row ?_ rfl; (first | omega | (simp only [std, stdM]; omega) | grind)) | (refine mkTo_step ?_ ?_; (first | omega | (simp only [std, stdM]; omega) | grind); (first | grind [mkTo_all, snocI, snocS, rowSnoc])) | grind [mkTo_all, snocI, snocS, rowSnoc]))
theorem c_markCaptureS (x : Capture) : ∀ (n : Int) (h0 : 0 ≤ n) (h : n + sumBy cP x.each ≤ 2147483647), P_c_markCaptureS x n := Capture.ind (P := fun x => ∀ (n : Int) (h0 : 0 ≤ n) (h : n + sumBy cP x.each ≤ 2147483647), P_c_markCaptureS x n) (fun x ih n h0 h => c_markCaptureS_s x n h0 h ih) x
theorem c_markCaptureSL (L : List Capture) (n : Int) (h0 : 0 ≤ n) (h : n + sumBy cP L ≤ 2147483647) : P_c_markCaptureS { (default : Capture) with each := L } n := c_markCaptureS { (default : Capture) with each := L } n h0 h

abbrev P_c_markExpander (x : Expander) (n : Int) : Prop := CallOK Try.prog 37 [.arr true 4 (x.bindings.map bindingC), .arr true 3 (x.macros.map rulesC)] [.agg [.ref 0, .ref 1, vI x.scope, vI x.vari, vI x.steps], li n] [.arr true 4 ((seqM mkB cB x.bindings (n)).map bindingC), .arr true 3 ((seqM mkR cR x.macros (n + sumBy cB x.bindings)).map rulesC)] (.sv (li (n + sumBy cB x.bindings + sumBy cR x.macros)))
theorem run_c_markExpander (x : Expander) (n : Int) : aexec Try.prog (Option.getD (Func.body Try.f37) Code.skip) (entry [Ob.arr true 4 (List.map bindingC (Expander.bindings x)),
 Ob.arr true 3 (List.map rulesC (Expander.macros x))] [SV.agg [AC.ref 0, AC.ref 1, vI (Expander.scope x), vI (Expander.vari x), vI (Expander.steps x)], li n] 14) [Orc.call
 [Mode.own true 4, Mode.rd] [Ob.arr true 4 (List.map bindingC (seqM mkB cB (Expander.bindings x) n))] (AV.sv (li (n + (↑(sumBy cB (Expander.bindings x)) : Int)))), Orc.call
 [Mode.own true 3, Mode.rd] [Ob.arr true 3 (List.map rulesC (seqM mkR cR (Expander.macros x) (n + (↑(sumBy cB (Expander.bindings x)) : Int))))] (AV.sv (li (n + (↑(sumBy cB
 (Expander.bindings x)) : Int) + (↑(sumBy cR (Expander.macros x)) : Int)))), Orc.fin []] (finK Try.prog [ResultVar.tmp 4] [Ob.arr true 4 (List.map bindingC (seqM mkB cB
 (Expander.bindings x) n)), Ob.arr true 3 (List.map rulesC (seqM mkR cR (Expander.macros x) (n + (↑(sumBy cB (Expander.bindings x)) : Int))))] (AV.sv (li (n + (↑(sumBy cB
 (Expander.bindings x)) : Int) + (↑(sumBy cR (Expander.macros x)) : Int))))) = (P_c_markBindingS (Expander.bindings x) n ∧ P_c_markRulesS (Expander.macros x) (n + (↑(sumBy cB
 (Expander.bindings x)) : Int)) ∧ ObsEq [Ob.arr true 4 (List.map bindingC (seqM mkB cB (Expander.bindings x) n)), Ob.arr true 3 (List.map rulesC (seqM mkR cR (Expander.macros x) (n
 + (↑(sumBy cB (Expander.bindings x)) : Int))))] [Ob.arr true 4 (List.map bindingC (seqM mkB cB (Expander.bindings x) n)), Ob.arr true 3 (List.map rulesC (seqM mkR cR
 (Expander.macros x) (n + (↑(sumBy cB (Expander.bindings x)) : Int))))] ∧ AV.sv (li (n + (↑(sumBy cB (Expander.bindings x)) : Int) + (↑(sumBy cR (Expander.macros x)) : Int))) =
 AV.sv (li (n + (↑(sumBy cB (Expander.bindings x)) : Int) + (↑(sumBy cR (Expander.macros x)) : Int)))) := by kernel_rfl
theorem c_markExpander (x : Expander) (n : Int) (h0 : 0 ≤ n) (h : n + (sumBy cB x.bindings + sumBy cR x.macros : Nat) ≤ 2147483647) (h21 : x.macros.length ≤ 2147483647)  :
 P_c_markExpander x n := by
  refine CallOK.ofRun wide (run_c_markExpander x n) Try.call37 Try.func37 rfl rfl rfl ?_
  with_reducible repeat' (first | apply And.intro | exact flatI | exact flatS | exact rowLens | (intro; skip) | apply obsN | apply obsC | apply obA | apply obM | apply obB | apply svA | apply tupA | apply lcA | apply lcS | apply svC | apply liC | apply lbC | apply lsC | apply vIc | apply vBc | apply vSc | apply vLc | apply mapC | apply c_markBindingS | apply c_markRulesS)
  all_goals (try simp only [std, stdM] at *)
  all_goals (try (first | with_reducible rfl | omega | assumption | (refine (decide_eq_true ?_).symm; assumption) | (refine (decide_eq_false ?_).symm; assumption) | (refine rowGet ?_; (first | omega | (simp only [std, stdM]; omega) | grind)) | (refine getC ?_ rfl; (first | omega | (simp only [std, stdM]; omega) | grind)) | (refine fill_step ?_ ?_; (first | omega | (simp only [std, stdM]; omega) | grind); (first | rfl | exact (Row.eq _).trans rfl)) | (refine fill_init ?_; (first | rfl | exact (Row.eq _).trans rfl)) | (refine set_row ?_; (simp only [List.length_map, List.length_set, mkTo_len]; omega)) | (refine mkToRow ?_; (first | omega | (simp only [std, stdM]; omega) | grind)) | (refine mkTo_row ?_ rfl; (first | omega | (simp only [std, stdM]; omega) | grind)) | (refine mkTo_step ?_ ?_; (first | omega | (simp only [std, stdM]; omega) | grind); (first | grind [snocI, snocS, rowSnoc])) | grind [snocI, snocS, rowSnoc]))

abbrev P_c_markModule (x : Module) (n : Int) : Prop := CallOK Try.prog 60 [.arr true 1 (x.imports.map strC), .arr true 1 (x.exports.map strC), .arr true 4 (x.body.map datumC)] [.agg [vS x.name, .ref 0, .ref 1, .ref 2], li n] [.arr true 1 ((seqM mkT cOne x.imports (n)).map strC), .arr true 1 ((seqM mkT cOne x.exports (n + x.imports.length)).map strC), .arr true 4 ((seqM mkD cD x.body (n + x.imports.length + x.exports.length)).map datumC)] (.sv (li (n + x.imports.length + x.exports.length + sumBy cD x.body)))
theorem run_c_markModule (x : Module) (n : Int) : aexec Try.prog (Option.getD (Func.body Try.f60) Code.skip) (entry [Ob.arr true 1 (List.map strC (Module.imports x)), Ob.arr true 1
 (List.map strC (Module.exports x)), Ob.arr true 4 (List.map datumC (Module.body x))] [SV.agg [vS (Module.name x), AC.ref 0, AC.ref 1, AC.ref 2], li n] 18) [Orc.call [Mode.own true
 1, Mode.rd] [Ob.arr true 1 (List.map strC (seqM mkT cOne (Module.imports x) n))] (AV.sv (li (n + (↑(List.length (Module.imports x)) : Int)))), Orc.call [Mode.own true 1, Mode.rd]
 [Ob.arr true 1 (List.map strC (seqM mkT cOne (Module.exports x) (n + (↑(List.length (Module.imports x)) : Int))))] (AV.sv (li (n + (↑(List.length (Module.imports x)) : Int) +
 (↑(List.length (Module.exports x)) : Int)))), Orc.call [Mode.own true 4, Mode.rd] [Ob.arr true 4 (List.map datumC (seqM mkD cD (Module.body x) (n + (↑(List.length (Module.imports
 x)) : Int) + (↑(List.length (Module.exports x)) : Int))))] (AV.sv (li (n + (↑(List.length (Module.imports x)) : Int) + (↑(List.length (Module.exports x)) : Int) + (↑(sumBy cD
 (Module.body x)) : Int)))), Orc.fin []] (finK Try.prog [ResultVar.tmp 4] [Ob.arr true 1 (List.map strC (seqM mkT cOne (Module.imports x) n)), Ob.arr true 1 (List.map strC (seqM
 mkT cOne (Module.exports x) (n + (↑(List.length (Module.imports x)) : Int)))), Ob.arr true 4 (List.map datumC (seqM mkD cD (Module.body x) (n + (↑(List.length (Module.imports x))
 : Int) + (↑(List.length (Module.exports x)) : Int))))] (AV.sv (li (n + (↑(List.length (Module.imports x)) : Int) + (↑(List.length (Module.exports x)) : Int) + (↑(sumBy cD
 (Module.body x)) : Int))))) = (P_c_markStringS (Module.imports x) n ∧ P_c_markStringS (Module.exports x) (n + (↑(List.length (Module.imports x)) : Int)) ∧ CallOK Try.prog 128
 [Ob.arr true 4 (List.map datumC (Module.body x))] [SV.one (AC.ref 0), li (n + (↑(List.length (Module.imports x)) : Int) + (↑(List.length (Module.exports x)) : Int))] [Ob.arr true
 4 (List.map datumC (seqM mkD cD (Module.body x) (n + (↑(List.length (Module.imports x)) : Int) + (↑(List.length (Module.exports x)) : Int))))] (AV.sv (li (n + (↑(List.length
 (Module.imports x)) : Int) + (↑(List.length (Module.exports x)) : Int) + (↑(sumBy cD (Module.body x)) : Int)))) ∧ ObsEq [Ob.arr true 1 (List.map strC (seqM mkT cOne
 (Module.imports x) n)), Ob.arr true 1 (List.map strC (seqM mkT cOne (Module.exports x) (n + (↑(List.length (Module.imports x)) : Int)))), Ob.arr true 4 (List.map datumC (seqM mkD
 cD (Module.body x) (n + (↑(List.length (Module.imports x)) : Int) + (↑(List.length (Module.exports x)) : Int))))] [Ob.arr true 1 (List.map strC (seqM mkT cOne (Module.imports x)
 n)), Ob.arr true 1 (List.map strC (seqM mkT cOne (Module.exports x) (n + (↑(List.length (Module.imports x)) : Int)))), Ob.arr true 4 (List.map datumC (seqM mkD cD (Module.body x)
 (n + (↑(List.length (Module.imports x)) : Int) + (↑(List.length (Module.exports x)) : Int))))] ∧ AV.sv (li (n + (↑(List.length (Module.imports x)) : Int) + (↑(List.length
 (Module.exports x)) : Int) + (↑(sumBy cD (Module.body x)) : Int))) = AV.sv (li (n + (↑(List.length (Module.imports x)) : Int) + (↑(List.length (Module.exports x)) : Int) +
 (↑(sumBy cD (Module.body x)) : Int)))) := by kernel_rfl
theorem c_markModule (x : Module) (n : Int) (h0 : 0 ≤ n) (h : n + (x.imports.length + x.exports.length + sumBy cD x.body : Nat) ≤ 2147483647)  : P_c_markModule x n := by
  refine CallOK.ofRun wide (run_c_markModule x n) Try.call60 Try.func60 rfl rfl rfl ?_
  with_reducible repeat' (first | apply And.intro | exact flatI | exact flatS | exact rowLens | (intro; skip) | apply obsN | apply obsC | apply obA | apply obM | apply obB | apply svA | apply tupA | apply lcA | apply lcS | apply svC | apply liC | apply lbC | apply lsC | apply vIc | apply vBc | apply vSc | apply vLc | apply mapC | apply c_markStringS | apply c_markDatumS | apply c_markDatumSL)
  all_goals (try simp only [std, stdM] at *)
  all_goals (try (first | with_reducible rfl | omega | assumption | (refine (decide_eq_true ?_).symm; assumption) | (refine (decide_eq_false ?_).symm; assumption) | (refine rowGet ?_; (first | omega | (simp only [std, stdM]; omega) | grind)) | (refine getC ?_ rfl; (first | omega | (simp only [std, stdM]; omega) | grind)) | (refine fill_step ?_ ?_; (first | omega | (simp only [std, stdM]; omega) | grind); (first | rfl | exact (Row.eq _).trans rfl)) | (refine fill_init ?_; (first | rfl | exact (Row.eq _).trans rfl)) | (refine set_row ?_; (simp only [List.length_map, List.length_set, mkTo_len]; omega)) | (refine mkToRow ?_; (first | omega | (simp only [std, stdM]; omega) | grind)) | (refine mkTo_row ?_ rfl; (first | omega | (simp only [std, stdM]; omega) | grind)) | (refine mkTo_step ?_ ?_; (first | omega | (simp only [std, stdM]; omega) | grind); (first | grind [snocI, snocS, rowSnoc])) | grind [snocI, snocS, rowSnoc]))

abbrev P_c_markUnitS (L : List Unit) (n : Int) : Prop := CallOK Try.prog 44 [.arr true 10 (L.map unitC)] [.one (.ref 0), li n] [.arr true 10 ((seqM mkU cU L n).map unitC)] (.sv (li (n + sumBy cU L)))
def Tc_markUnitSLa (L : List Unit) (n : Int) (x0 : SV) (x1 : SV) (x2 : Ob) : St := St.mk (regsOf 97 [(0, AV.sv (SV.one (AC.ref 0))), (1, AV.sv x1), (5, AV.sv x0)]) [x2] 1 
def Lc_markUnitSLa (L : List Unit) (n : Int) (k : Nat) : St := Tc_markUnitSLa L n (li (↑k : Int)) (li (n + (↑(sumBy cU (List.take k L)) : Int))) (Ob.arr true 10 (List.map unitC
 (mkTo mkU cU L n k))) 
def Ic_markUnitSLa (L : List Unit) (n : Int) : Nat → St → Prop := Head (Lc_markUnitSLa L n) (fun k => k ≤ List.length L ∧ List.length L ≤ 9223372036854775807) fun k => List.length
 L - k 
def W0c_markUnitSLa (L : List Unit) (n : Int) (x0 : SV) (x1 : Ob) : St := St.mk (regsOf 97 [(1, AV.sv x0)]) [x1] 1 
def Yc_markUnitSLa (L : List Unit) (n : Int) : List (Prop × AEx × St) := [(True, AEx.exit 0, W0c_markUnitSLa L n (li (n + (↑(sumBy cU L) : Int))) (Ob.arr true 10 (List.map unitC
 (seqM mkU cU L n))))]
theorem Hc_markUnitSLa {L : List Unit} {n : Int} {k : Nat} {m : Nat} (h : (fun k => k ≤ List.length L ∧ List.length L ≤ 9223372036854775807) k) (hm : (fun k => List.length L - k) k
 = m) : Ic_markUnitSLa L n m (Lc_markUnitSLa L n k) := hm ▸ Head.mk h
theorem Ec_markUnitSLa {L : List Unit} {n : Int} {k : Nat} {x0 : SV} {x1 : SV} {x2 : Ob} (h0 : x0 = (li (↑k : Int))) (h1 : x1 = (li (n + (↑(sumBy cU (List.take k L)) : Int)))) (h2
 : x2 = (Ob.arr true 10 (List.map unitC (mkTo mkU cU L n k)))) : Tc_markUnitSLa L n x0 x1 x2 = Lc_markUnitSLa L n k := by
  rw [h0, h1, h2]
  rfl
theorem EW0c_markUnitSLa {L : List Unit} {n : Int} {x0 y0 : SV} {x1 y1 : Ob} (h0 : x0 = y0) (h1 : x1 = y1) : W0c_markUnitSLa L n x0 x1 = W0c_markUnitSLa L n y0 y1 := by rw [h0, h1]
abbrev a21__markUnitSLa (L : List Unit) (n : Int) (k : Nat) := (mText (n + (↑(sumBy cU (List.take k L)) : Int)))
abbrev a2__markUnitSLa (L : List Unit) (k : Nat) := (List.getD L (Int.toNat (↑k : Int)) default)
abbrev a30__markUnitSLa (L : List Unit) (n : Int) (k : Nat) := (cS (a21__markUnitSLa L n k) :: Cell.list (List.map intC (Unit.globals (a2__markUnitSLa L k))) :: coreF (Unit.body
 (a2__markUnitSLa L k)))
abbrev a10__markUnitSLa (L : List Unit) (n : Int) (k : Nat) := (List.set (List.map unitC (mkTo mkU cU L n k)) (Int.toNat (↑k : Int)) (a30__markUnitSLa L n k))
abbrev a13__markUnitSLa (L : List Unit) (n : Int) (k : Nat) := (List.map intC (seqM mkI cOne (Unit.globals (a2__markUnitSLa L k)) (n + (↑(sumBy cU (List.take k L)) : Int) + 1)))
abbrev a11__markUnitSLa (L : List Unit) (k : Nat) := (↑(List.length (Unit.globals (a2__markUnitSLa L k))) : Int)
abbrev a23__markUnitSLa (L : List Unit) (n : Int) (k : Nat) := (n + (↑(sumBy cU (List.take k L)) : Int) + 1 + (a11__markUnitSLa L k))
abbrev a22__markUnitSLa (L : List Unit) (n : Int) (k : Nat) := (n + (↑(sumBy cU (List.take k L)) : Int) + 1 + (a11__markUnitSLa L k) + 1)
abbrev a29__markUnitSLa (L : List Unit) (k : Nat) := (Core.params (Unit.body (a2__markUnitSLa L k)))
abbrev a16__markUnitSLa (L : List Unit) (k : Nat) := (Core.datum (Unit.body (a2__markUnitSLa L k)))
abbrev a28__markUnitSLa (L : List Unit) (k : Nat) := (List.map datumC (Datum.items (a16__markUnitSLa L k)))
abbrev a25__markUnitSLa (L : List Unit) (k : Nat) := (List.map coreC (Core.kids (Unit.body (a2__markUnitSLa L k))))
abbrev a9__markUnitSLa (L : List Unit) (n : Int) (k : Nat) := [cS (a21__markUnitSLa L n k), Cell.list (a13__markUnitSLa L n k), cI (a23__markUnitSLa L n k), cI (a22__markUnitSLa L
 n k), Cell.list (List.map intC (a29__markUnitSLa L k)), cI (Datum.kind (a16__markUnitSLa L k)), cI (Datum.number (a16__markUnitSLa L k)), cS (Datum.text (a16__markUnitSLa L k)),
 Cell.list (a28__markUnitSLa L k), Cell.list (a25__markUnitSLa L k)]
abbrev a1__markUnitSLa (L : List Unit) (n : Int) (k : Nat) := (List.set (a10__markUnitSLa L n k) (Int.toNat (↑k : Int)) (a9__markUnitSLa L n k))
abbrev a15__markUnitSLa (L : List Unit) (n : Int) (k : Nat) := (List.map intC (seqM mkI cOne (a29__markUnitSLa L k) (n + (↑(sumBy cU (List.take k L)) : Int) + 1 + (a11__markUnitSLa
 L k) + 1 + 1)))
abbrev a12__markUnitSLa (L : List Unit) (k : Nat) := (↑(List.length (a29__markUnitSLa L k)) : Int)
abbrev a19__markUnitSLa (L : List Unit) (n : Int) (k : Nat) := (n + (↑(sumBy cU (List.take k L)) : Int) + 1 + (a11__markUnitSLa L k) + 1 + 1 + (a12__markUnitSLa L k))
abbrev a24__markUnitSLa (L : List Unit) (n : Int) (k : Nat) := (n + (↑(sumBy cU (List.take k L)) : Int) + 1 + (a11__markUnitSLa L k) + 1 + 1 + (a12__markUnitSLa L k) + 1)
abbrev a18__markUnitSLa (L : List Unit) (n : Int) (k : Nat) := (n + (↑(sumBy cU (List.take k L)) : Int) + 1 + (a11__markUnitSLa L k) + 1 + 1 + (a12__markUnitSLa L k) + 1 + 1)
abbrev a3__markUnitSLa (L : List Unit) (n : Int) (k : Nat) := [cS (a21__markUnitSLa L n k), Cell.list (a13__markUnitSLa L n k), cI (a23__markUnitSLa L n k), cI (a22__markUnitSLa L
 n k), Cell.list (a15__markUnitSLa L n k), cI (a19__markUnitSLa L n k), cI (a24__markUnitSLa L n k), cS (mText (a18__markUnitSLa L n k)), Cell.list (a28__markUnitSLa L k),
 Cell.list (a25__markUnitSLa L k)]
abbrev a4__markUnitSLa (L : List Unit) (n : Int) (k : Nat) := [cS (a21__markUnitSLa L n k), Cell.list (a13__markUnitSLa L n k), cI (a23__markUnitSLa L n k), cI (a22__markUnitSLa L
 n k), Cell.list (a15__markUnitSLa L n k), cI (a19__markUnitSLa L n k), cI (a24__markUnitSLa L n k), cS (Datum.text (a16__markUnitSLa L k)), Cell.list (a28__markUnitSLa L k),
 Cell.list (a25__markUnitSLa L k)]
abbrev a17__markUnitSLa (L : List Unit) (n : Int) (k : Nat) := (n + (↑(sumBy cU (List.take k L)) : Int) + 1 + (a11__markUnitSLa L k) + 1 + 1 + (a12__markUnitSLa L k) + 1 + 1 + 1)
abbrev a31__markUnitSLa (L : List Unit) (n : Int) (k : Nat) := (List.map datumC (seqM mkD cD (Datum.items (a16__markUnitSLa L k)) (a17__markUnitSLa L n k)))
abbrev a5__markUnitSLa (L : List Unit) (n : Int) (k : Nat) := [cS (a21__markUnitSLa L n k), Cell.list (a13__markUnitSLa L n k), cI (a23__markUnitSLa L n k), cI (a22__markUnitSLa L
 n k), Cell.list (a15__markUnitSLa L n k), cI (a19__markUnitSLa L n k), cI (a24__markUnitSLa L n k), cS (mText (a18__markUnitSLa L n k)), Cell.list (a31__markUnitSLa L n k),
 Cell.list (a25__markUnitSLa L k)]
abbrev a6__markUnitSLa (L : List Unit) (n : Int) (k : Nat) := [cS (a21__markUnitSLa L n k), Cell.list (a13__markUnitSLa L n k), cI (a23__markUnitSLa L n k), cI (a22__markUnitSLa L
 n k), Cell.list (a15__markUnitSLa L n k), cI (a19__markUnitSLa L n k), cI (Datum.number (a16__markUnitSLa L k)), cS (Datum.text (a16__markUnitSLa L k)), Cell.list
 (a28__markUnitSLa L k), Cell.list (a25__markUnitSLa L k)]
abbrev a7__markUnitSLa (L : List Unit) (n : Int) (k : Nat) := [cS (a21__markUnitSLa L n k), Cell.list (a13__markUnitSLa L n k), cI (a23__markUnitSLa L n k), cI (Core.number
 (Unit.body (a2__markUnitSLa L k))), Cell.list (List.map intC (a29__markUnitSLa L k)), cI (Datum.kind (a16__markUnitSLa L k)), cI (Datum.number (a16__markUnitSLa L k)), cS
 (Datum.text (a16__markUnitSLa L k)), Cell.list (a28__markUnitSLa L k), Cell.list (a25__markUnitSLa L k)]
abbrev a8__markUnitSLa (L : List Unit) (n : Int) (k : Nat) := [cS (a21__markUnitSLa L n k), Cell.list (a13__markUnitSLa L n k), cI (a23__markUnitSLa L n k), cI (a22__markUnitSLa L
 n k), Cell.list (a15__markUnitSLa L n k), cI (Datum.kind (a16__markUnitSLa L k)), cI (Datum.number (a16__markUnitSLa L k)), cS (Datum.text (a16__markUnitSLa L k)), Cell.list
 (a28__markUnitSLa L k), Cell.list (a25__markUnitSLa L k)]
abbrev a14__markUnitSLa (L : List Unit) (n : Int) (k : Nat) := (n + (↑(sumBy cU (List.take k L)) : Int) + 1 + (a11__markUnitSLa L k) + 1 + 1 + (a12__markUnitSLa L k) + 1 + 1 + 1 +
 (↑(sumBy cD (Datum.items (a16__markUnitSLa L k))) : Int))
abbrev a20__markUnitSLa (L : List Unit) (n : Int) (k : Nat) := (li (n + (↑(sumBy cU (List.take k L)) : Int) + 1 + (a11__markUnitSLa L k) + 1 + 1 + (a12__markUnitSLa L k) + 1 + 1 +
 1 + (↑(sumBy cD (Datum.items (a16__markUnitSLa L k))) : Int) + (↑(sumBy cC (Core.kids (Unit.body (a2__markUnitSLa L k)))) : Int)))
abbrev a26__markUnitSLa (L : List Unit) (n : Int) (k : Nat) := (List.set (a1__markUnitSLa L n k) (Int.toNat (↑k : Int)) (a3__markUnitSLa L n k))
abbrev a27__markUnitSLa (L : List Unit) (n : Int) (k : Nat) := (cS (a21__markUnitSLa L n k) :: Cell.list (a13__markUnitSLa L n k) :: coreF (Unit.body (a2__markUnitSLa L k)))
theorem run_c_markUnitSLa (L : List Unit) (n : Int) (k : Nat) : aexec Try.prog (loopAt Try.f44 0) (Lc_markUnitSLa L n k) [Orc.br [Orc.call [Mode.rd] [] (AV.sv (ls (a21__markUnitSLa
 L n k))), Orc.cells (unitF (a2__markUnitSLa L k)), Orc.sub, Orc.subcall (a30__markUnitSLa L n k) (List.map intC (Unit.globals (a2__markUnitSLa L k))) 1, Orc.call [Mode.own true 1,
 Mode.rd] [Ob.arr true 1 (a13__markUnitSLa L n k)] (AV.sv (li (a23__markUnitSLa L n k))), Orc.take (a27__markUnitSLa L n k) (List.set (a10__markUnitSLa L n k) (Int.toNat (↑k :
 Int)) (a7__markUnitSLa L n k)) 0, Orc.take (a7__markUnitSLa L n k) (a1__markUnitSLa L n k) 0, Orc.sub, Orc.subcall (a9__markUnitSLa L n k) (List.map intC (a29__markUnitSLa L k))
 1, Orc.call [Mode.own true 1, Mode.rd] [Ob.arr true 1 (a15__markUnitSLa L n k)] (AV.sv (li (a19__markUnitSLa L n k))), Orc.take (a8__markUnitSLa L n k) (List.set (a1__markUnitSLa
 L n k) (Int.toNat (↑k : Int)) (a6__markUnitSLa L n k)) 0, Orc.take (a6__markUnitSLa L n k) (List.set (a1__markUnitSLa L n k) (Int.toNat (↑k : Int)) (a4__markUnitSLa L n k)) 0,
 Orc.call [Mode.rd] [] (AV.sv (ls (mText (a18__markUnitSLa L n k)))), Orc.take (a4__markUnitSLa L n k) (a26__markUnitSLa L n k) 0, Orc.sub, Orc.subcall (a3__markUnitSLa L n k)
 (a28__markUnitSLa L k) 4, Orc.call [Mode.own true 4, Mode.rd] [Ob.arr true 4 (a31__markUnitSLa L n k)] (AV.sv (li (a14__markUnitSLa L n k))), Orc.sub, Orc.subcall (a5__markUnitSLa
 L n k) (a25__markUnitSLa L k) 8, Orc.call [Mode.own true 8, Mode.rd] [Ob.arr true 8 (List.map coreC (seqM mkC cC (Core.kids (Unit.body (a2__markUnitSLa L k))) (a14__markUnitSLa L
 n k)))] (AV.sv (a20__markUnitSLa L n k)), Orc.ghost (Ghost.sel [0] [0, 1, 5]), Orc.goto (List.length L - (k + 1)) (Lc_markUnitSLa L n (k + 1))] [Orc.ghost (Ghost.sel [0] [1]),
 Orc.out 0]] (loopK (Ic_markUnitSLa L n) (Yc_markUnitSLa L n) (List.length L - k)) = (List.length (List.map unitC (mkTo mkU cU L n k)) ≤ 9223372036854775807 → (decide ((↑k : Int) <
 (↑(List.length (List.map unitC (mkTo mkU cU L n k))) : Int)) = true → P_c_markText (n + (↑(sumBy cU (List.take k L)) : Int)) ∧ (0 ≤ (↑k : Int) ∧ Int.toNat (↑k : Int) < List.length
 (List.map unitC (mkTo mkU cU L n k))) ∧ (List.map unitC (mkTo mkU cU L n k))[Int.toNat (↑k : Int)]? = some (unitF (a2__markUnitSLa L k)) ∧ rng IntKind.i64 (n + (↑(sumBy cU
 (List.take k L)) : Int) + 1) ∧ (0 ≤ (↑k : Int) ∧ Int.toNat (↑k : Int) < List.length (a10__markUnitSLa L n k)) ∧ Int.toNat (↑k : Int) < List.length (a10__markUnitSLa L n k) ∧
 (a10__markUnitSLa L n k)[Int.toNat (↑k : Int)]? = some (a30__markUnitSLa L n k) ∧ some (Cell.list (List.map intC (Unit.globals (a2__markUnitSLa L k)))) = some (Cell.list (List.map
 intC (Unit.globals (a2__markUnitSLa L k)))) ∧ (∀ (x : List Cell), x ∈ List.map intC (Unit.globals (a2__markUnitSLa L k)) → List.length x = 1) ∧ P_c_markIntS (Unit.globals
 (a2__markUnitSLa L k)) (n + (↑(sumBy cU (List.take k L)) : Int) + 1) ∧ (0 ≤ (↑k : Int) ∧ Int.toNat (↑k : Int) < List.length (List.set (a10__markUnitSLa L n k) (Int.toNat (↑k :
 Int)) (a27__markUnitSLa L n k))) ∧ (List.set (a10__markUnitSLa L n k) (Int.toNat (↑k : Int)) (a27__markUnitSLa L n k))[Int.toNat (↑k : Int)]? = some (a27__markUnitSLa L n k) ∧
 List.set (List.set (a10__markUnitSLa L n k) (Int.toNat (↑k : Int)) (a27__markUnitSLa L n k)) (Int.toNat (↑k : Int)) (a7__markUnitSLa L n k) = List.set (a10__markUnitSLa L n k)
 (Int.toNat (↑k : Int)) (a7__markUnitSLa L n k) ∧ rng IntKind.i64 (a22__markUnitSLa L n k) ∧ (0 ≤ (↑k : Int) ∧ Int.toNat (↑k : Int) < List.length (List.set (a10__markUnitSLa L n k)
 (Int.toNat (↑k : Int)) (a7__markUnitSLa L n k))) ∧ (List.set (a10__markUnitSLa L n k) (Int.toNat (↑k : Int)) (a7__markUnitSLa L n k))[Int.toNat (↑k : Int)]? = some
 (a7__markUnitSLa L n k) ∧ List.set (List.set (a10__markUnitSLa L n k) (Int.toNat (↑k : Int)) (a7__markUnitSLa L n k)) (Int.toNat (↑k : Int)) (a9__markUnitSLa L n k) = List.set
 (a10__markUnitSLa L n k) (Int.toNat (↑k : Int)) (a9__markUnitSLa L n k) ∧ rng IntKind.i64 (n + (↑(sumBy cU (List.take k L)) : Int) + 1 + (a11__markUnitSLa L k) + 1 + 1) ∧ (0 ≤ (↑k
 : Int) ∧ Int.toNat (↑k : Int) < List.length (a1__markUnitSLa L n k)) ∧ Int.toNat (↑k : Int) < List.length (a1__markUnitSLa L n k) ∧ (a1__markUnitSLa L n k)[Int.toNat (↑k : Int)]?
 = some (a9__markUnitSLa L n k) ∧ some (Cell.list (List.map intC (a29__markUnitSLa L k))) = some (Cell.list (List.map intC (a29__markUnitSLa L k))) ∧ (∀ (x : List Cell), x ∈
 List.map intC (a29__markUnitSLa L k) → List.length x = 1) ∧ P_c_markIntS (a29__markUnitSLa L k) (n + (↑(sumBy cU (List.take k L)) : Int) + 1 + (a11__markUnitSLa L k) + 1 + 1) ∧ (0
 ≤ (↑k : Int) ∧ Int.toNat (↑k : Int) < List.length (List.set (a1__markUnitSLa L n k) (Int.toNat (↑k : Int)) (a8__markUnitSLa L n k))) ∧ (List.set (a1__markUnitSLa L n k) (Int.toNat
 (↑k : Int)) (a8__markUnitSLa L n k))[Int.toNat (↑k : Int)]? = some (a8__markUnitSLa L n k) ∧ List.set (List.set (a1__markUnitSLa L n k) (Int.toNat (↑k : Int)) (a8__markUnitSLa L n
 k)) (Int.toNat (↑k : Int)) (a6__markUnitSLa L n k) = List.set (a1__markUnitSLa L n k) (Int.toNat (↑k : Int)) (a6__markUnitSLa L n k) ∧ rng IntKind.i64 (a24__markUnitSLa L n k) ∧
 (0 ≤ (↑k : Int) ∧ Int.toNat (↑k : Int) < List.length (List.set (a1__markUnitSLa L n k) (Int.toNat (↑k : Int)) (a6__markUnitSLa L n k))) ∧ (List.set (a1__markUnitSLa L n k)
 (Int.toNat (↑k : Int)) (a6__markUnitSLa L n k))[Int.toNat (↑k : Int)]? = some (a6__markUnitSLa L n k) ∧ List.set (List.set (a1__markUnitSLa L n k) (Int.toNat (↑k : Int))
 (a6__markUnitSLa L n k)) (Int.toNat (↑k : Int)) (a4__markUnitSLa L n k) = List.set (a1__markUnitSLa L n k) (Int.toNat (↑k : Int)) (a4__markUnitSLa L n k) ∧ rng IntKind.i64
 (a18__markUnitSLa L n k) ∧ P_c_markText (a18__markUnitSLa L n k) ∧ (0 ≤ (↑k : Int) ∧ Int.toNat (↑k : Int) < List.length (List.set (a1__markUnitSLa L n k) (Int.toNat (↑k : Int))
 (a4__markUnitSLa L n k))) ∧ (List.set (a1__markUnitSLa L n k) (Int.toNat (↑k : Int)) (a4__markUnitSLa L n k))[Int.toNat (↑k : Int)]? = some (a4__markUnitSLa L n k) ∧ List.set
 (List.set (a1__markUnitSLa L n k) (Int.toNat (↑k : Int)) (a4__markUnitSLa L n k)) (Int.toNat (↑k : Int)) (a3__markUnitSLa L n k) = List.set (a1__markUnitSLa L n k) (Int.toNat (↑k
 : Int)) (a3__markUnitSLa L n k) ∧ rng IntKind.i64 (a17__markUnitSLa L n k) ∧ (0 ≤ (↑k : Int) ∧ Int.toNat (↑k : Int) < List.length (a26__markUnitSLa L n k)) ∧ Int.toNat (↑k : Int)
 < List.length (a26__markUnitSLa L n k) ∧ (a26__markUnitSLa L n k)[Int.toNat (↑k : Int)]? = some (a3__markUnitSLa L n k) ∧ some (Cell.list (a28__markUnitSLa L k)) = some (Cell.list
 (a28__markUnitSLa L k)) ∧ (∀ (x : List Cell), x ∈ List.map datumC (Datum.items (a16__markUnitSLa L k)) → List.length x = 4) ∧ CallOK Try.prog 128 [Ob.arr true 4 (a28__markUnitSLa
 L k)] [SV.one (AC.ref 0), li (a17__markUnitSLa L n k)] [Ob.arr true 4 (a31__markUnitSLa L n k)] (AV.sv (li (a14__markUnitSLa L n k))) ∧ (0 ≤ (↑k : Int) ∧ Int.toNat (↑k : Int) <
 List.length (List.set (a26__markUnitSLa L n k) (Int.toNat (↑k : Int)) (a5__markUnitSLa L n k))) ∧ Int.toNat (↑k : Int) < List.length (List.set (a26__markUnitSLa L n k) (Int.toNat
 (↑k : Int)) (a5__markUnitSLa L n k)) ∧ (List.set (a26__markUnitSLa L n k) (Int.toNat (↑k : Int)) (a5__markUnitSLa L n k))[Int.toNat (↑k : Int)]? = some (a5__markUnitSLa L n k) ∧
 some (Cell.list (a25__markUnitSLa L k)) = some (Cell.list (a25__markUnitSLa L k)) ∧ (∀ (x : List Cell), x ∈ List.map coreC (Core.kids (Unit.body (a2__markUnitSLa L k))) →
 List.length x = 8) ∧ CallOK Try.prog 115 [Ob.arr true 8 (a25__markUnitSLa L k)] [SV.one (AC.ref 0), li (a14__markUnitSLa L n k)] [Ob.arr true 8 (List.map coreC (seqM mkC cC
 (Core.kids (Unit.body (a2__markUnitSLa L k))) (a14__markUnitSLa L n k)))] (AV.sv (a20__markUnitSLa L n k)) ∧ rng IntKind.i64 ((↑k : Int) + 1) ∧ List.length L - (k + 1) <
 List.length L - k ∧ Tc_markUnitSLa L n (li ((↑k : Int) + 1)) (a20__markUnitSLa L n k) (Ob.arr true 10 (List.set (List.set (a26__markUnitSLa L n k) (Int.toNat (↑k : Int))
 (a5__markUnitSLa L n k)) (Int.toNat (↑k : Int)) [cS (a21__markUnitSLa L n k), Cell.list (a13__markUnitSLa L n k), cI (a23__markUnitSLa L n k), cI (a22__markUnitSLa L n k),
 Cell.list (a15__markUnitSLa L n k), cI (a19__markUnitSLa L n k), cI (a24__markUnitSLa L n k), cS (mText (a18__markUnitSLa L n k)), Cell.list (a31__markUnitSLa L n k), Cell.list
 (List.map coreC (seqM mkC cC (Core.kids (Unit.body (a2__markUnitSLa L k))) (a14__markUnitSLa L n k)))])) = Lc_markUnitSLa L n (k + 1) ∧ Ic_markUnitSLa L n (List.length L - (k +
 1)) (Lc_markUnitSLa L n (k + 1))) ∧ (decide ((↑k : Int) < (↑(List.length (List.map unitC (mkTo mkU cU L n k))) : Int)) = false → True ∧ W0c_markUnitSLa L n (li (n + (↑(sumBy cU
 (List.take k L)) : Int))) (Ob.arr true 10 (List.map unitC (mkTo mkU cU L n k))) = W0c_markUnitSLa L n (li (n + (↑(sumBy cU L) : Int))) (Ob.arr true 10 (List.map unitC (seqM mkU cU
 L n))))) := by kernel_rfl
theorem Sc_markUnitSLa (L : List Unit) (n : Int) (h0 : 0 ≤ n) (h : n + (↑(sumBy cU L) : Int) ≤ 2147483647)  : LoopSem Try.prog (loopAt Try.f44 0) (Ic_markUnitSLa L n)
 (Yc_markUnitSLa L n) := by
  refine LoopSem.ofHead wide fun k h => ⟨_, _, run_c_markUnitSLa L n k, ?_⟩
  try delta a21__markUnitSLa a2__markUnitSLa a30__markUnitSLa a10__markUnitSLa a13__markUnitSLa a11__markUnitSLa a23__markUnitSLa a22__markUnitSLa a29__markUnitSLa a16__markUnitSLa a28__markUnitSLa a25__markUnitSLa a9__markUnitSLa a1__markUnitSLa a15__markUnitSLa a12__markUnitSLa a19__markUnitSLa a24__markUnitSLa a18__markUnitSLa a3__markUnitSLa a4__markUnitSLa a17__markUnitSLa a31__markUnitSLa a5__markUnitSLa a6__markUnitSLa a7__markUnitSLa a8__markUnitSLa a14__markUnitSLa a20__markUnitSLa a26__markUnitSLa a27__markUnitSLa
  have g0 := sumBy_takeLe cU L (k + 1)
  with_reducible repeat' (first | apply And.intro | exact flatI | exact flatS | exact rowLens | (intro; skip) | apply obsN | apply obsC | apply obA | apply obM | apply obB | apply svA | apply tupA | apply lcA | apply lcS | apply svC | apply liC | apply lbC | apply lsC | apply vIc | apply vBc | apply vSc | apply vLc | apply mapC | apply Hc_markUnitSLa | apply Ec_markUnitSLa | apply EW0c_markUnitSLa | apply c_markText | apply c_markIntS | apply c_markDatumS | apply c_markDatumSL | apply c_markCoreS | apply c_markCoreSL)
  all_goals (try simp only [std, stdM] at *)
  all_goals (try (first | with_reducible rfl | omega | assumption | (refine (decide_eq_true ?_).symm; assumption) | (refine (decide_eq_false ?_).symm; assumption) | (refine rowGet ?_; (first | omega | (simp only [std, stdM]; omega) | grind)) | (refine getC ?_ rfl; (first | omega | (simp only [std, stdM]; omega) | grind)) | (refine fill_step ?_ ?_; (first | omega | (simp only [std, stdM]; omega) | grind); (first | rfl | exact (Row.eq _).trans rfl)) | (refine fill_init ?_; (first | rfl | exact (Row.eq _).trans rfl)) | (refine set_row ?_; (simp only [List.length_map, List.length_set, mkTo_len]; omega)) | (refine mkToRow ?_; (first | omega | (simp only [std, stdM]; omega) | grind)) | (refine mkTo_row ?_ rfl; (first | omega | (simp only [std, stdM]; omega) | grind)) | (refine mkTo_step ?_ ?_; (first | omega | (simp only [std, stdM]; omega) | grind); (first | exact mkU_C _ _ | grind [sumBy_step, getD_mem', cU_eq, mkU_C, mkTo_all, snocI, snocS, rowSnoc])) | grind [sumBy_step, getD_mem', cU_eq, mkU_C, mkTo_all, snocI, snocS, rowSnoc]))
theorem run_c_markUnitS (L : List Unit) (n : Int) : aexec Try.prog (Option.getD (Func.body Try.f44) Code.skip) (entry [Ob.arr true 10 (List.map unitC L)] [SV.one (AC.ref 0), li n]
 97) [Orc.ghost (Ghost.sel [0] [0, 1, 5]), Orc.loop (List.length L - 0) (Lc_markUnitSLa L n 0) (Ic_markUnitSLa L n) [(True, AEx.exit 0, W0c_markUnitSLa L n (li (n + (↑(sumBy cU L)
 : Int))) (Ob.arr true 10 (List.map unitC (seqM mkU cU L n))), [Orc.fin []])]] (finK Try.prog [ResultVar.tmp 4] [Ob.arr true 10 (List.map unitC (seqM mkU cU L n))] (AV.sv (li (n +
 (↑(sumBy cU L) : Int))))) = (Tc_markUnitSLa L n (li 0) (li n) (Ob.arr true 10 (List.map unitC L)) = Lc_markUnitSLa L n 0 ∧ Ic_markUnitSLa L n (List.length L - 0) (Lc_markUnitSLa L
 n 0) ∧ LoopSem Try.prog (loopAt Try.f44 0) (Ic_markUnitSLa L n) (Yc_markUnitSLa L n) ∧ (True → ObsEq [Ob.arr true 10 (List.map unitC (seqM mkU cU L n))] [Ob.arr true 10 (List.map
 unitC (seqM mkU cU L n))] ∧ AV.sv (li (n + (↑(sumBy cU L) : Int))) = AV.sv (li (n + (↑(sumBy cU L) : Int)))) ∧ True) := by kernel_rfl
theorem c_markUnitS (L : List Unit) (n : Int) (h0 : 0 ≤ n) (h : n + sumBy cU L ≤ 2147483647)  : P_c_markUnitS L n := by
  refine CallOK.ofRun wide (run_c_markUnitS L n) Try.call44 Try.func44 rfl rfl rfl ?_
  have gl := cU_len L
  with_reducible repeat' (first | apply And.intro | exact flatI | exact flatS | exact rowLens | (intro; skip) | apply obsN | apply obsC | apply obA | apply obM | apply obB | apply svA | apply tupA | apply lcA | apply lcS | apply svC | apply liC | apply lbC | apply lsC | apply vIc | apply vBc | apply vSc | apply vLc | apply mapC | apply Hc_markUnitSLa | apply Ec_markUnitSLa | apply Sc_markUnitSLa | apply EW0c_markUnitSLa | apply c_markText | apply c_markIntS | apply c_markDatumS | apply c_markDatumSL | apply c_markCoreS | apply c_markCoreSL)
  all_goals (try simp only [std, stdM] at *)
  all_goals (try (first | with_reducible rfl | omega | assumption | (refine (decide_eq_true ?_).symm; assumption) | (refine (decide_eq_false ?_).symm; assumption) | (refine rowGet ?_; (first | omega | (simp only [std, stdM]; omega) | grind)) | (refine getC ?_ rfl; (first | omega | (simp only [std, stdM]; omega) | grind)) | (refine fill_step ?_ ?_; (first | omega | (simp only [std, stdM]; omega) | grind); (first | rfl | exact (Row.eq _).trans rfl)) | (refine fill_init ?_; (first | rfl | exact (Row.eq _).trans rfl)) | (refine set_row ?_; (simp only [List.length_map, List.length_set, mkTo_len]; omega)) | (refine mkToRow ?_; (first | omega | (simp only [std, stdM]; omega) | grind)) | (refine mkTo_row ?_ rfl; (first | omega | (simp only [std, stdM]; omega) | grind)) | (refine mkTo_step ?_ ?_; (first | omega | (simp only [std, stdM]; omega) | grind); (first | grind [mkTo_all, snocI, snocS, rowSnoc])) | grind [mkTo_all, snocI, snocS, rowSnoc]))

end Go.Proofs.Ytamcedjjlokfhaa
