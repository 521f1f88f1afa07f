/- The program's FreshScope returns what the reference's returns, for all arguments. No condition. -/
import Derived.Test.YtegbadciefljcaaGreatFre4
section
namespace Go.Proofs.YtegbadciefljcaaGreat
open Go Go.Proofs.YtegbadciefljcaaGreat.Ab
set_option linter.unusedVariables false
set_option linter.unusedSimpArgs false
set_option maxHeartbeats 4000000
abbrev P_c_markIntS (L : List Int) (n : Int) : Prop := CallOK Tryz.prog 74 [.arr true 1 (L.map intC)] [.one (.ref 0), li n] [.arr true 1 ((seqM mkI cOne L n).map intC)] (.sv (li (n + L.length)))
def Tc_markIntSLa (L : List Int) (n : Int) (x0 : SV) (x1 : SV) (x2 : Ob) : St := St.mk (regsOf 19 [(0, AV.sv (SV.one (AC.ref 0))), (1, AV.sv x1), (5, AV.sv x0)]) [x2] 1 
def Lc_markIntSLa (L : List Int) (n : Int) (k : Nat) : St := Tc_markIntSLa L n (li (k : Int)) (li (n + (k : Int))) (Ob.arr true 1 (List.map intC (mkTo mkI cOne L n k))) 
abbrev Ic_markIntSLa (L : List Int) (n : Int) : Nat -> St -> Prop := Head (Lc_markIntSLa L n) (fun k => k <= List.length L /\ List.length L <= 9223372036854775807) fun k => List.length L -
 k 
def W0c_markIntSLa (L : List Int) (n : Int) (x0 : SV) (x1 : Ob) : St := St.mk (regsOf 19 [(1, AV.sv x0)]) [x1] 1 
def Yc_markIntSLa (L : List Int) (n : Int) : List (Prop × AEx × St) := [(True, AEx.exit 0, W0c_markIntSLa L n (li (n + (↑(List.length L) : Int))) (Ob.arr true 1 (List.map intC
 (seqM mkI cOne L n))))]

theorem Ec_markIntSLa {L : List Int} {n : Int} {k : Nat} {x0 : SV} {x1 : SV} {x2 : Ob} (h0 : x0 = (li (k : Int))) (h1 : x1 = (li (n + (k : Int)))) (h2 : x2 = (Ob.arr true 1
 (List.map intC (mkTo mkI cOne L n k)))) : Tc_markIntSLa L n x0 x1 x2 = Lc_markIntSLa L n k := by
  rw [h0, h1, h2]
  rfl
theorem EW0c_markIntSLa {L : List Int} {n : Int} {x0 y0 : SV} {x1 y1 : Ob} (h0 : x0 = y0) (h1 : x1 = y1) : W0c_markIntSLa L n x0 x1 = W0c_markIntSLa L n y0 y1 := by rw [h0, h1]
theorem run_c_markIntSLa (L : List Int) (n : Int) (k : Nat) : aexec Tryz.prog (loopAt Tryz.f74 0) (Lc_markIntSLa L n k) [.br [.cells (intC (List.getD L (Int.toNat (k : Int))
 default)), .ghost (.sel [0] [0, 1, 5]), .goto (List.length L - (k + 1)) (Lc_markIntSLa L n (k + 1))] [.ghost (.sel [0] [1]), .out 0]] (loopK (Ic_markIntSLa L
 n) (Yc_markIntSLa L n) (List.length L - k)) = (List.length (List.map intC (mkTo mkI cOne L n k)) <= 9223372036854775807 -> (decide ((k : Int) < (↑(List.length (List.map intC (mkTo
 mkI cOne L n k))) : Int)) = true -> (0 <= (k : Int) /\ Int.toNat (k : Int) < List.length (List.map intC (mkTo mkI cOne L n k))) /\ (List.map intC (mkTo mkI cOne L n k))[Int.toNat
 (k : Int)]? = some [cI (List.getD L (Int.toNat (k : Int)) 0)] /\ rng .i64 (n + (k : Int) + 1) /\ rng .i64 ((k : Int) + 1) /\ List.length L - (k + 1) < List.length L
 - k /\ Tc_markIntSLa L n (li ((k : Int) + 1)) (li (n + (k : Int) + 1)) (Ob.arr true 1 (List.set (List.map intC (mkTo mkI cOne L n k)) (Int.toNat (k : Int)) [cI (n + (↑k :
 Int))])) = Lc_markIntSLa L n (k + 1) /\ Ic_markIntSLa L n (List.length L - (k + 1)) (Lc_markIntSLa L n (k + 1))) /\ (decide ((k : Int) < (↑(List.length (List.map intC (mkTo mkI
 cOne L n k))) : Int)) = false -> True /\ W0c_markIntSLa L n (li (n + (k : Int))) (Ob.arr true 1 (List.map intC (mkTo mkI cOne L n k))) = W0c_markIntSLa L n (li (n + (↑(List.length
 L) : Int))) (Ob.arr true 1 (List.map intC (seqM mkI cOne L n))))) := by kernel_rfl
theorem Sc_markIntSLa (L : List Int) (n : Int) (h0 : 0 <= n) (h : n + (↑(List.length L) : Int) <= 2147483647)  : LoopSem Tryz.prog (loopAt Tryz.f74 0) (Ic_markIntSLa L n)
 (Yc_markIntSLa L n) := by
  refine LoopSem.ofHead wide fun k h => ⟨_, _, run_c_markIntSLa L n k, ?_⟩
  with_reducible repeat' (first | apply And.intro | exact flatI | exact flatS | exact rowLens | (intro; skip) | apply obsN | apply obsC | apply obA | apply obM | apply obB | apply svA | apply tupA | apply lcA | apply lcS | apply svC | apply liC | apply lbC | apply lsC | apply vIc | apply vBc | apply vSc | apply vLc | apply mapC | apply hdI | apply Ec_markIntSLa | apply EW0c_markIntSLa)
  all_goals (try simp only [std, stdM] at *)
  all_goals (try (first | with_reducible rfl | omega | assumption | exact dT ‹_› | exact dF ‹_› | ((first | refine rowGet ?_ | refine getC ?_ rfl); (first | omega | (simp only [std, stdM]; omega) | grind)) | (refine set_row ?_; (simp only [List.length_map, List.length_set, mkTo_len]; omega)) | (refine mkToRow ?_; (first | omega | (simp only [std, stdM]; omega) | grind)) | (refine mkTo_row ?_ rfl; (first | omega | (simp only [std, stdM]; omega) | grind)) | (refine mkTo_step ?_ ?_; (first | omega | (simp only [std, stdM]; omega) | grind); (first | grind [mkTo_all, mkI, cOne_take, intC, mkTo_get, snocI, snocS, rowSnoc])) | (show (_ : St) = _; rfl) | grind [mkTo_all, mkI, cOne_take, intC, mkTo_get, snocI, snocS, rowSnoc]))
theorem run_c_markIntS (L : List Int) (n : Int) : aexec Tryz.prog (Tryz.f74.body.getD .skip) (entry [Ob.arr true 1 (List.map intC L)] [SV.one (AC.ref 0), li n]
 19) [.ghost (.sel [0] [0, 1, 5]), .loop (List.length L - 0) (Lc_markIntSLa L n 0) (Ic_markIntSLa L n) [(True, AEx.exit 0, W0c_markIntSLa L n (li (n + (↑(List.length L)
 : Int))) (Ob.arr true 1 (List.map intC (seqM mkI cOne L n))), [.fin []])]] (finK Tryz.prog [ResultVar.tmp 4] [Ob.arr true 1 (List.map intC (seqM mkI cOne L n))] (AV.sv (li (n +
 (↑(List.length L) : Int))))) = (Tc_markIntSLa L n (li 0) (li n) (Ob.arr true 1 (List.map intC L)) = Lc_markIntSLa L n 0 /\ Ic_markIntSLa L n (List.length L - 0) (Lc_markIntSLa L n
 0) /\ LoopSem Tryz.prog (loopAt Tryz.f74 0) (Ic_markIntSLa L n) (Yc_markIntSLa L n) /\ (True -> ObsEq [Ob.arr true 1 (List.map intC (seqM mkI cOne L n))] [Ob.arr true 1 (List.map
 intC (seqM mkI cOne L n))] /\ AV.sv (li (n + (↑(List.length L) : Int))) = AV.sv (li (n + (↑(List.length L) : Int)))) /\ True) := by kernel_rfl
theorem c_markIntS (L : List Int) (n : Int) (h0 : 0 <= n) (h : n + L.length <= 2147483647)  : P_c_markIntS L n := by
  refine CallOK.ofRun wide (run_c_markIntS L n) Tryz.call74 Tryz.func74 rfl rfl rfl ?_
  with_reducible repeat' (first | apply And.intro | exact flatI | exact flatS | exact rowLens | (intro; skip) | apply obsN | apply obsC | apply obA | apply obM | apply obB | apply svA | apply tupA | apply lcA | apply lcS | apply svC | apply liC | apply lbC | apply lsC | apply vIc | apply vBc | apply vSc | apply vLc | apply mapC | apply hdI | apply Ec_markIntSLa | apply Sc_markIntSLa | apply EW0c_markIntSLa)
  all_goals (try simp only [std, stdM] at *)
  all_goals (try (first | with_reducible rfl | omega | assumption | exact dT ‹_› | exact dF ‹_› | ((first | refine rowGet ?_ | refine getC ?_ rfl); (first | omega | (simp only [std, stdM]; omega) | grind)) | (refine set_row ?_; (simp only [List.length_map, List.length_set, mkTo_len]; omega)) | (refine mkToRow ?_; (first | omega | (simp only [std, stdM]; omega) | grind)) | (refine mkTo_row ?_ rfl; (first | omega | (simp only [std, stdM]; omega) | grind)) | (refine mkTo_step ?_ ?_; (first | omega | (simp only [std, stdM]; omega) | grind); (first | grind [mkTo_zero, snocI, snocS, rowSnoc])) | (show (_ : St) = _; rfl) | grind [mkTo_zero, snocI, snocS, rowSnoc]))
abbrev P_c_markText (n : Int) : Prop := CallOK Tryz.prog 73 [] [li n] [] (.sv (ls (mText n)))
def Tc_markTextLa (n : Int) (x0 : SV) (x1 : SV) : St := St.mk (regsOf 20 [(0, AV.sv x0), (3, AV.sv x1)]) [] 0 
def Lc_markTextLa (n : Int) (k : Int × List UInt8) : St := Tc_markTextLa n (li (Prod.fst k)) (ls (mkS (Prod.snd k))) 
abbrev Ic_markTextLa (n : Int) : Nat -> St -> Prop := Head (Lc_markTextLa n) (fun k => 0 <= Prod.fst k /\ Prod.fst k <= n /\ digs (Int.toNat (Prod.fst k)) ++ Prod.snd k = digs (Int.toNat
 n)) fun k => Int.toNat (Prod.fst k) 
def W0c_markTextLa (n : Int) (x0 : SV) : St := St.mk (regsOf 20 [(3, AV.sv x0)]) [] 0 
def Yc_markTextLa (n : Int) : List (Prop × AEx × St) := [(True, AEx.exit 0, W0c_markTextLa n (ls (mkS (digs (Int.toNat n)))))]

theorem Ec_markTextLa {n : Int} {k : Int × List UInt8} {x0 : SV} {x1 : SV} (h0 : x0 = (li (Prod.fst k))) (h1 : x1 = (ls (mkS (Prod.snd k)))) : Tc_markTextLa n x0 x1 = Lc_markTextLa
 n k := by
  rw [h0, h1]
  rfl
theorem EW0c_markTextLa {n : Int} {x0 y0 : SV} (h0 : x0 = y0) : W0c_markTextLa n x0 = W0c_markTextLa n y0 := by rw [h0]
abbrev a1_c_markTextLa (k : Int × List UInt8) := [UInt8.ofNat (Int.toNat (48 + Int.tmod (Prod.fst k) 10))]
theorem run_c_markTextLa (n : Int) (k : Int × List UInt8) : aexec Tryz.prog (loopAt Tryz.f73 0) (Lc_markTextLa n k) [.br [.bytes (a1_c_markTextLa k), .ghost (.sel []
 [0, 3]), .goto (Int.toNat (Int.tdiv (Prod.fst k) 10)) (Lc_markTextLa n (Int.tdiv (Prod.fst k) 10, (a1_c_markTextLa k) ++ Prod.snd k))] [.ghost (.sel [] [3]), .out
 0]] (loopK (Ic_markTextLa n) (Yc_markTextLa n) (Int.toNat (Prod.fst k))) = ((decide (0 < Prod.fst k) = true -> (10 : Int) ≠ 0 /\ rng .i64 (48 + Int.tmod (Prod.fst k) 10) /\
 rng IntKind.u8 (48 + Int.tmod (Prod.fst k) 10) /\ [[Cell.lit (Value.int IntKind.u8 (48 + Int.tmod (Prod.fst k) 10))]] = [[Cell.lit (Value.int IntKind.u8 (↑(UInt8.toNat (UInt8.ofNat
 (Int.toNat (48 + Int.tmod (Prod.fst k) 10)))) : Int))]] /\ 1 + List.length (Prod.snd k) <= 9223372036854775807 /\ (10 : Int) ≠ 0 /\ rng .i64 (Int.tdiv (Prod.fst k) 10) /\
 Int.toNat (Int.tdiv (Prod.fst k) 10) < Int.toNat (Prod.fst k) /\ Tc_markTextLa n (li (Int.tdiv (Prod.fst k) 10)) (ls (ByteArray.mk (List.toArray ((a1_c_markTextLa k) ++ Prod.snd
 k)))) = Lc_markTextLa n (Int.tdiv (Prod.fst k) 10, (a1_c_markTextLa k) ++ Prod.snd k) /\ Ic_markTextLa n (Int.toNat (Int.tdiv (Prod.fst k) 10)) (Lc_markTextLa n (Int.tdiv (Prod.fst
 k) 10, (a1_c_markTextLa k) ++ Prod.snd k))) /\ (decide (0 < Prod.fst k) = false -> True /\ W0c_markTextLa n (ls (mkS (Prod.snd k))) = W0c_markTextLa n (ls (mkS (digs (Int.toNat
 n)))))) := by kernel_rfl
theorem Sc_markTextLa (n : Int) (h0 : 0 <= n) (h : n <= 2147483647)  : LoopSem Tryz.prog (loopAt Tryz.f73 0) (Ic_markTextLa n) (Yc_markTextLa n) := by
  refine LoopSem.ofHead wide fun k h => ⟨_, _, run_c_markTextLa n k, ?_⟩
  try delta a1_c_markTextLa
  obtain ⟨i, l⟩ := k
  simp only at *
  obtain ⟨g1, g2, g3⟩ := h
  have g4 : l.length <= 2147483647 := by
    have := congrArg List.length g3
    have := digs_len n.toNat
    simp only [List.length_append] at *
    omega
  simp only [Int.tmod_eq_emod_of_nonneg g1, Int.tdiv_eq_ediv_of_nonneg g1]
  refine ⟨fun g => ?_, fun g => ?_⟩
  . have g : 0 < i := of_decide_eq_true g
    refine ⟨by decide, by rw [rng64]; omega, by rw [rngu8]; omega, by rw [u8_int (by omega) (by omega)], by omega, by decide, by rw [rng64]; omega, by omega, ?_, ?_⟩
    . apply Ec_markTextLa <;> rfl
    . apply hdI
      . exact ⟨by show 0 <= i / 10; omega, by show i / 10 <= n; omega, by show digs (i / 10).toNat ++ ([_] ++ l) = _; rw [<- g3, digs_int g, List.append_assoc]⟩
      . rfl
  . have g : ¬ 0 < i := of_decide_eq_false g
    refine ⟨trivial, ?_⟩
    have e : i = 0 := by omega
    subst e
    rw [show digs (0 : Int).toNat = [] from digs_zero] at g3
    rw [<- g3]; rfl
theorem run_c_markText (n : Int) : aexec Tryz.prog (Tryz.f73.body.getD .skip) (entry [] [li n] 20) [.br [.fin []] [.ghost (.sel [] [0, 3]), .loop
 (Int.toNat n) (Lc_markTextLa n (n, [])) (Ic_markTextLa n) [(True, AEx.exit 0, W0c_markTextLa n (ls (mkS (digs (Int.toNat n)))), [.fin []])]]] (finK Tryz.prog [ResultVar.tmp 2]
 [] (AV.sv (ls (mText n)))) = ((decide (n <= 0) = true -> ObsEq [] [] /\ AV.sv (ls (ByteArray.mk #[(109 : UInt8), (48 : UInt8)])) = AV.sv (ls (mText n))) /\ (decide (n <= 0) = false ->
 Tc_markTextLa n (li n) (ls (ByteArray.mk #[])) = Lc_markTextLa n (n, []) /\ Ic_markTextLa n (Int.toNat n) (Lc_markTextLa n (n, [])) /\ LoopSem Tryz.prog (loopAt Tryz.f73 0)
 (Ic_markTextLa n) (Yc_markTextLa n) /\ (True -> 1 + List.length (digs (Int.toNat n)) <= 9223372036854775807 /\ ObsEq [] [] /\ AV.sv (ls (ByteArray.mk (List.toArray ([(109 : UInt8)] ++
 digs (Int.toNat n))))) = AV.sv (ls (mText n))) /\ True)) := by kernel_rfl
theorem c_markText (n : Int) (h0 : 0 <= n) (h : n <= 2147483647)  : P_c_markText n := by
  refine CallOK.ofRun wide (run_c_markText n) Tryz.call73 Tryz.func73 rfl rfl rfl ?_
  have g := digs_len n.toNat
  simp only [mText]
  with_reducible repeat' (first | apply And.intro | exact flatI | exact flatS | exact rowLens | (intro; skip) | apply obsN | apply obsC | apply obA | apply obM | apply obB | apply svA | apply tupA | apply lcA | apply lcS | apply svC | apply liC | apply lbC | apply lsC | apply vIc | apply vBc | apply vSc | apply vLc | apply mapC | apply hdI | apply Ec_markTextLa | apply Sc_markTextLa | apply EW0c_markTextLa)
  all_goals (try simp only [std, stdM] at *)
  all_goals (try (first | with_reducible rfl | omega | assumption | exact dT ‹_› | exact dF ‹_› | ((first | refine rowGet ?_ | refine getC ?_ rfl); (first | omega | (simp only [std, stdM]; omega) | grind)) | (refine set_row ?_; (simp only [List.length_map, List.length_set, mkTo_len]; omega)) | (refine mkToRow ?_; (first | omega | (simp only [std, stdM]; omega) | grind)) | (refine mkTo_row ?_ rfl; (first | omega | (simp only [std, stdM]; omega) | grind)) | (refine mkTo_step ?_ ?_; (first | omega | (simp only [std, stdM]; omega) | grind); (first | grind [mkS, snocI, snocS, rowSnoc])) | (show (_ : St) = _; rfl) | grind [mkS, snocI, snocS, rowSnoc]))
abbrev P_c_markSyntaxS (x : Syntax) (n : Int) : Prop := CallOK Tryz.prog 38 [.arr true 5 (x.items.map syntaxC)] [.one (.ref 0), li n] [.arr true 5 ((seqM mkY cY x.items n).map syntaxC)] (.sv (li (n + sumBy cY x.items)))
def Tc_markSyntaxS_sLa (x : Syntax) (n : Int) (x0 : SV) (x1 : SV) (x2 : Ob) : St := St.mk (regsOf 49 [(0, AV.sv (SV.one (AC.ref 0))), (1, AV.sv x1), (5, AV.sv x0)]) [x2] 1 
def Lc_markSyntaxS_sLa (x : Syntax) (n : Int) (k : Nat) : St := Tc_markSyntaxS_sLa x n (li (k : Int)) (li (n + (↑(sumBy cY (List.take k (Syntax.items x))) : Int))) (Ob.arr true 5
 (List.map syntaxC (mkTo mkY cY (Syntax.items x) n k))) 
abbrev Ic_markSyntaxS_sLa (x : Syntax) (n : Int) : Nat -> St -> Prop := Head (Lc_markSyntaxS_sLa x n) (fun k => k <= List.length (Syntax.items x) /\ List.length (Syntax.items x) <=
 9223372036854775807) fun k => List.length (Syntax.items x) - k 
def W0c_markSyntaxS_sLa (x : Syntax) (n : Int) (x0 : SV) (x1 : Ob) : St := St.mk (regsOf 49 [(1, AV.sv x0)]) [x1] 1 
def Yc_markSyntaxS_sLa (x : Syntax) (n : Int) : List (Prop × AEx × St) := [(True, AEx.exit 0, W0c_markSyntaxS_sLa x n (li (n + (↑(sumBy cY (Syntax.items x)) : Int))) (Ob.arr true 5
 (List.map syntaxC (seqM mkY cY (Syntax.items x) n))))]

theorem Ec_markSyntaxS_sLa {x : Syntax} {n : Int} {k : Nat} {x0 : SV} {x1 : SV} {x2 : Ob} (h0 : x0 = (li (k : Int))) (h1 : x1 = (li (n + (↑(sumBy cY (List.take k (Syntax.items
 x))) : Int)))) (h2 : x2 = (Ob.arr true 5 (List.map syntaxC (mkTo mkY cY (Syntax.items x) n k)))) : Tc_markSyntaxS_sLa x n x0 x1 x2 = Lc_markSyntaxS_sLa x n k := by
  rw [h0, h1, h2]
  rfl
theorem EW0c_markSyntaxS_sLa {x : Syntax} {n : Int} {x0 y0 : SV} {x1 y1 : Ob} (h0 : x0 = y0) (h1 : x1 = y1) : W0c_markSyntaxS_sLa x n x0 x1 = W0c_markSyntaxS_sLa x n y0 y1 := by rw
 [h0, h1]
abbrev a1__markSyntaxS_sLa (x : Syntax) (k : Nat) := (List.getD (Syntax.items x) (Int.toNat (k : Int)) default)
abbrev a3__markSyntaxS_sLa (x : Syntax) (k : Nat) := (↑(sumBy cY (List.take k (Syntax.items x))) : Int)
abbrev a9__markSyntaxS_sLa (x : Syntax) (k : Nat) := (Syntax.scopes (a1__markSyntaxS_sLa x k))
abbrev a11__markSyntaxS_sLa (x : Syntax) (k : Nat) := (Syntax.items (a1__markSyntaxS_sLa x k))
abbrev a2__markSyntaxS_sLa (x : Syntax) (n : Int) (k : Nat) := [cI (n + (a3__markSyntaxS_sLa x k)), cI (n + (a3__markSyntaxS_sLa x k) + 1), cS (mText (n + (a3__markSyntaxS_sLa x k)
 + 1 + 1)), Cell.list (List.map intC (a9__markSyntaxS_sLa x k)), Cell.list (List.map syntaxC (a11__markSyntaxS_sLa x k))]
abbrev a15__markSyntaxS_sLa (x : Syntax) (n : Int) (k : Nat) := (List.map intC (seqM mkI cOne (a9__markSyntaxS_sLa x k) (n + (a3__markSyntaxS_sLa x k) + 1 + 1 + 1)))
abbrev a4__markSyntaxS_sLa (x : Syntax) (n : Int) (k : Nat) := [cI (n + (a3__markSyntaxS_sLa x k)), cI (n + (a3__markSyntaxS_sLa x k) + 1), cS (mText (n + (a3__markSyntaxS_sLa x k)
 + 1 + 1)), Cell.list (a15__markSyntaxS_sLa x n k), Cell.list (List.map syntaxC (a11__markSyntaxS_sLa x k))]
abbrev a5__markSyntaxS_sLa (x : Syntax) (n : Int) (k : Nat) := [cI (n + (a3__markSyntaxS_sLa x k)), cI (n + (a3__markSyntaxS_sLa x k) + 1), cS (Syntax.text (a1__markSyntaxS_sLa x
 k)), Cell.list (List.map intC (a9__markSyntaxS_sLa x k)), Cell.list (List.map syntaxC (a11__markSyntaxS_sLa x k))]
abbrev a6__markSyntaxS_sLa (x : Syntax) (n : Int) (k : Nat) := [cI (n + (a3__markSyntaxS_sLa x k)), cI (Syntax.number (a1__markSyntaxS_sLa x k)), cS (Syntax.text
 (a1__markSyntaxS_sLa x k)), Cell.list (List.map intC (a9__markSyntaxS_sLa x k)), Cell.list (List.map syntaxC (a11__markSyntaxS_sLa x k))]
abbrev a7__markSyntaxS_sLa (x : Syntax) (n : Int) (k : Nat) := (List.map syntaxC (mkTo mkY cY (Syntax.items x) n k))
abbrev a8__markSyntaxS_sLa (x : Syntax) (n : Int) (k : Nat) := (List.set (a7__markSyntaxS_sLa x n k) (Int.toNat (k : Int)) (a2__markSyntaxS_sLa x n k))
abbrev a10__markSyntaxS_sLa (x : Syntax) (n : Int) (k : Nat) := (n + (a3__markSyntaxS_sLa x k) + 1 + 1 + 1 + (↑(List.length (a9__markSyntaxS_sLa x k)) : Int))
abbrev a12__markSyntaxS_sLa (x : Syntax) (n : Int) (k : Nat) := (li (n + (a3__markSyntaxS_sLa x k) + 1 + 1 + 1 + (↑(List.length (a9__markSyntaxS_sLa x k)) : Int) + (↑(sumBy cY
 (a11__markSyntaxS_sLa x k)) : Int)))
abbrev a13__markSyntaxS_sLa (x : Syntax) (n : Int) (k : Nat) := (List.set (a7__markSyntaxS_sLa x n k) (Int.toNat (k : Int)) (a5__markSyntaxS_sLa x n k))
abbrev a14__markSyntaxS_sLa (x : Syntax) (n : Int) (k : Nat) := (List.set (a8__markSyntaxS_sLa x n k) (Int.toNat (k : Int)) (a4__markSyntaxS_sLa x n k))
theorem run_c_markSyntaxS_sLa (x : Syntax) (n : Int) (k : Nat) : aexec Tryz.prog (loopAt Tryz.f38 0) (Lc_markSyntaxS_sLa x n k) [.br [.cells (syntaxF (a1__markSyntaxS_sLa x
 k)), .take (a6__markSyntaxS_sLa x n k) (a13__markSyntaxS_sLa x n k) 0, .call [Mode.rd] [] (AV.sv (ls (mText (n + (a3__markSyntaxS_sLa x k) + 1 + 1)))), .take
 (a5__markSyntaxS_sLa x n k) (a8__markSyntaxS_sLa x n k) 0, .sub, .subcall (a2__markSyntaxS_sLa x n k) (List.map intC (a9__markSyntaxS_sLa x k)) 1, .call [Mode.own true 1,
 Mode.rd] [Ob.arr true 1 (a15__markSyntaxS_sLa x n k)] (AV.sv (li (a10__markSyntaxS_sLa x n k))), .sub, .subcall (a4__markSyntaxS_sLa x n k) (List.map syntaxC
 (a11__markSyntaxS_sLa x k)) 5, .call [Mode.own true 5, Mode.rd] [Ob.arr true 5 (List.map syntaxC (seqM mkY cY (a11__markSyntaxS_sLa x k) (a10__markSyntaxS_sLa x n k)))] (AV.sv
 (a12__markSyntaxS_sLa x n k)), .ghost (.sel [0] [0, 1, 5]), .goto (List.length (Syntax.items x) - (k + 1)) (Lc_markSyntaxS_sLa x n (k + 1))] [.ghost (.sel [0]
 [1]), .out 0]] (loopK (Ic_markSyntaxS_sLa x n) (Yc_markSyntaxS_sLa x n) (List.length (Syntax.items x) - k)) = (List.length (a7__markSyntaxS_sLa x n k) <= 9223372036854775807 ->
 (decide ((k : Int) < (↑(List.length (a7__markSyntaxS_sLa x n k)) : Int)) = true -> (0 <= (k : Int) /\ Int.toNat (k : Int) < List.length (a7__markSyntaxS_sLa x n k)) /\
 (a7__markSyntaxS_sLa x n k)[Int.toNat (k : Int)]? = some (syntaxF (a1__markSyntaxS_sLa x k)) /\ rng .i64 (n + (a3__markSyntaxS_sLa x k) + 1) /\ (0 <= (k : Int) /\ Int.toNat
 (k : Int) < List.length (List.set (a7__markSyntaxS_sLa x n k) (Int.toNat (k : Int)) (a6__markSyntaxS_sLa x n k))) /\ (List.set (a7__markSyntaxS_sLa x n k) (Int.toNat (k : Int))
 (a6__markSyntaxS_sLa x n k))[Int.toNat (k : Int)]? = some (a6__markSyntaxS_sLa x n k) /\ List.set (List.set (a7__markSyntaxS_sLa x n k) (Int.toNat (k : Int)) (a6__markSyntaxS_sLa
 x n k)) (Int.toNat (k : Int)) (a5__markSyntaxS_sLa x n k) = List.set (a7__markSyntaxS_sLa x n k) (Int.toNat (k : Int)) (a5__markSyntaxS_sLa x n k) /\ rng .i64 (n +
 (a3__markSyntaxS_sLa x k) + 1 + 1) /\ P_c_markText (n + (a3__markSyntaxS_sLa x k) + 1 + 1) /\ (0 <= (k : Int) /\ Int.toNat (k : Int) < List.length (a13__markSyntaxS_sLa x n k)) /\
 (a13__markSyntaxS_sLa x n k)[Int.toNat (k : Int)]? = some (a5__markSyntaxS_sLa x n k) /\ List.set (a13__markSyntaxS_sLa x n k) (Int.toNat (k : Int)) (a2__markSyntaxS_sLa x n k) =
 List.set (a7__markSyntaxS_sLa x n k) (Int.toNat (k : Int)) (a2__markSyntaxS_sLa x n k) /\ rng .i64 (n + (a3__markSyntaxS_sLa x k) + 1 + 1 + 1) /\ (0 <= (k : Int) /\ Int.toNat
 (k : Int) < List.length (a8__markSyntaxS_sLa x n k)) /\ Int.toNat (k : Int) < List.length (a8__markSyntaxS_sLa x n k) /\ (a8__markSyntaxS_sLa x n k)[Int.toNat (k : Int)]? = some
 (a2__markSyntaxS_sLa x n k) /\ some (Cell.list (List.map intC (a9__markSyntaxS_sLa x k))) = some (Cell.list (List.map intC (a9__markSyntaxS_sLa x k))) /\ (∀ (x_1 : List Cell), x_1 ∈
 List.map intC (a9__markSyntaxS_sLa x k) -> List.length x_1 = 1) /\ P_c_markIntS (a9__markSyntaxS_sLa x k) (n + (a3__markSyntaxS_sLa x k) + 1 + 1 + 1) /\ (0 <= (k : Int) /\ Int.toNat
 (k : Int) < List.length (a14__markSyntaxS_sLa x n k)) /\ Int.toNat (k : Int) < List.length (a14__markSyntaxS_sLa x n k) /\ (a14__markSyntaxS_sLa x n k)[Int.toNat (k : Int)]? =
 some (a4__markSyntaxS_sLa x n k) /\ some (Cell.list (List.map syntaxC (a11__markSyntaxS_sLa x k))) = some (Cell.list (List.map syntaxC (a11__markSyntaxS_sLa x k))) /\ (∀ (x_1 : List
 Cell), x_1 ∈ List.map syntaxC (a11__markSyntaxS_sLa x k) -> List.length x_1 = 5) /\ CallOK Tryz.prog 38 [Ob.arr true 5 (List.map syntaxC (a11__markSyntaxS_sLa x k))] [SV.one (AC.ref
 0), li (a10__markSyntaxS_sLa x n k)] [Ob.arr true 5 (List.map syntaxC (seqM mkY cY (a11__markSyntaxS_sLa x k) (a10__markSyntaxS_sLa x n k)))] (AV.sv (a12__markSyntaxS_sLa x n k))
 /\ rng .i64 ((k : Int) + 1) /\ List.length (Syntax.items x) - (k + 1) < List.length (Syntax.items x) - k /\ Tc_markSyntaxS_sLa x n (li ((k : Int) + 1)) (a12__markSyntaxS_sLa
 x n k) (Ob.arr true 5 (List.set (a14__markSyntaxS_sLa x n k) (Int.toNat (k : Int)) [cI (n + (a3__markSyntaxS_sLa x k)), cI (n + (a3__markSyntaxS_sLa x k) + 1), cS (mText (n +
 (a3__markSyntaxS_sLa x k) + 1 + 1)), Cell.list (a15__markSyntaxS_sLa x n k), Cell.list (List.map syntaxC (seqM mkY cY (a11__markSyntaxS_sLa x k) (a10__markSyntaxS_sLa x n k)))]))
 = Lc_markSyntaxS_sLa x n (k + 1) /\ Ic_markSyntaxS_sLa x n (List.length (Syntax.items x) - (k + 1)) (Lc_markSyntaxS_sLa x n (k + 1))) /\ (decide ((k : Int) < (↑(List.length
 (a7__markSyntaxS_sLa x n k)) : Int)) = false -> True /\ W0c_markSyntaxS_sLa x n (li (n + (a3__markSyntaxS_sLa x k))) (Ob.arr true 5 (a7__markSyntaxS_sLa x n k)) =
 W0c_markSyntaxS_sLa x n (li (n + (↑(sumBy cY (Syntax.items x)) : Int))) (Ob.arr true 5 (List.map syntaxC (seqM mkY cY (Syntax.items x) n))))) := by kernel_rfl
theorem Sc_markSyntaxS_sLa (x : Syntax) (n : Int) (h0 : 0 <= n) (h : n + (↑(sumBy cY (Syntax.items x)) : Int) <= 2147483647) (ih : ∀ (z : Syntax), z ∈ Syntax.items x -> ∀ (n : Int), 0
 <= n -> n + (↑(sumBy cY (Syntax.items z)) : Int) <= 2147483647 -> P_c_markSyntaxS z n)  : LoopSem Tryz.prog (loopAt Tryz.f38 0) (Ic_markSyntaxS_sLa x n) (Yc_markSyntaxS_sLa x n) := by
  refine LoopSem.ofHead wide fun k h => ⟨_, _, run_c_markSyntaxS_sLa x n k, ?_⟩
  try delta a1__markSyntaxS_sLa a3__markSyntaxS_sLa a9__markSyntaxS_sLa a11__markSyntaxS_sLa a2__markSyntaxS_sLa a15__markSyntaxS_sLa a4__markSyntaxS_sLa a5__markSyntaxS_sLa a6__markSyntaxS_sLa a7__markSyntaxS_sLa a8__markSyntaxS_sLa a10__markSyntaxS_sLa a12__markSyntaxS_sLa a13__markSyntaxS_sLa a14__markSyntaxS_sLa
  have g0 := sumBy_takeLe cY x.items (k + 1)
  with_reducible repeat' (first | apply And.intro | exact flatI | exact flatS | exact rowLens | exact ih | (intro; skip) | apply obsN | apply obsC | apply obA | apply obM | apply obB | apply svA | apply tupA | apply lcA | apply lcS | apply svC | apply liC | apply lbC | apply lsC | apply vIc | apply vBc | apply vSc | apply vLc | apply mapC | apply hdI | apply Ec_markSyntaxS_sLa | apply EW0c_markSyntaxS_sLa | apply c_markText | apply c_markIntS | apply ih)
  all_goals (try simp only [std, stdM] at *)
  all_goals (try (first | with_reducible apply c_markText | with_reducible apply c_markIntS | with_reducible apply ih | (simp only [<- List.map_append]; first | with_reducible apply c_markText | with_reducible apply c_markIntS | with_reducible apply ih)))
  all_goals (try (first | with_reducible rfl | omega | assumption | exact dT ‹_› | exact dF ‹_› | ((first | refine rowGet ?_ | refine getC ?_ rfl); (first | omega | (simp only [std, stdM]; omega) | grind)) | (refine set_row ?_; (simp only [List.length_map, List.length_set, mkTo_len]; omega)) | (refine mkToRow ?_; (first | omega | (simp only [std, stdM]; omega) | grind)) | (refine mkTo_row ?_ rfl; (first | omega | (simp only [std, stdM]; omega) | grind)) | (refine mkTo_step ?_ ?_; (first | omega | (simp only [std, stdM]; omega) | grind); (first | exact mkY_C _ _ | grind [sumBy_step, getD_mem', cY_eq, mkY_C, mkTo_all, snocI, snocS, rowSnoc])) | (show (_ : St) = _; rfl) | grind [sumBy_step, getD_mem', cY_eq, mkY_C, mkTo_all, snocI, snocS, rowSnoc]))
theorem run_c_markSyntaxS_s (x : Syntax) (n : Int) : aexec Tryz.prog (Tryz.f38.body.getD .skip) (entry [Ob.arr true 5 (List.map syntaxC (Syntax.items x))] [SV.one
 (AC.ref 0), li n] 49) [.ghost (.sel [0] [0, 1, 5]), .loop (List.length (Syntax.items x) - 0) (Lc_markSyntaxS_sLa x n 0) (Ic_markSyntaxS_sLa x n) [(True, AEx.exit 0,
 W0c_markSyntaxS_sLa x n (li (n + (↑(sumBy cY (Syntax.items x)) : Int))) (Ob.arr true 5 (List.map syntaxC (seqM mkY cY (Syntax.items x) n))), [.fin []])]] (finK Tryz.prog
 [ResultVar.tmp 4] [Ob.arr true 5 (List.map syntaxC (seqM mkY cY (Syntax.items x) n))] (AV.sv (li (n + (↑(sumBy cY (Syntax.items x)) : Int))))) = (Tc_markSyntaxS_sLa x n (li 0) (li
 n) (Ob.arr true 5 (List.map syntaxC (Syntax.items x))) = Lc_markSyntaxS_sLa x n 0 /\ Ic_markSyntaxS_sLa x n (List.length (Syntax.items x) - 0) (Lc_markSyntaxS_sLa x n 0) /\ LoopSem
 Tryz.prog (loopAt Tryz.f38 0) (Ic_markSyntaxS_sLa x n) (Yc_markSyntaxS_sLa x n) /\ (True -> ObsEq [Ob.arr true 5 (List.map syntaxC (seqM mkY cY (Syntax.items x) n))] [Ob.arr true 5
 (List.map syntaxC (seqM mkY cY (Syntax.items x) n))] /\ AV.sv (li (n + (↑(sumBy cY (Syntax.items x)) : Int))) = AV.sv (li (n + (↑(sumBy cY (Syntax.items x)) : Int)))) /\ True) := by
 kernel_rfl
theorem c_markSyntaxS_s (x : Syntax) (n : Int) (h0 : 0 <= n) (h : n + sumBy cY x.items <= 2147483647) (ih : ∀ z ∈ x.items, ∀ (n : Int) (h0 : 0 <= n) (h : n + sumBy cY z.items <=
 2147483647), P_c_markSyntaxS z n)  : P_c_markSyntaxS x n := by
  refine CallOK.ofRun wide (run_c_markSyntaxS_s x n) Tryz.call38 Tryz.func38 rfl rfl rfl ?_
  have gl := cY_len x.items
  with_reducible repeat' (first | apply And.intro | exact flatI | exact flatS | exact rowLens | exact ih | (intro; skip) | apply obsN | apply obsC | apply obA | apply obM | apply obB | apply svA | apply tupA | apply lcA | apply lcS | apply svC | apply liC | apply lbC | apply lsC | apply vIc | apply vBc | apply vSc | apply vLc | apply mapC | apply hdI | apply Ec_markSyntaxS_sLa | apply Sc_markSyntaxS_sLa | apply EW0c_markSyntaxS_sLa | apply c_markText | apply c_markIntS)
  all_goals (try simp only [std, stdM] at *)
  all_goals (try (first | with_reducible apply c_markText | with_reducible apply c_markIntS | with_reducible apply ih | (simp only [<- List.map_append]; first | with_reducible apply c_markText | with_reducible apply c_markIntS | with_reducible apply ih)))
  all_goals (try (first | with_reducible rfl | omega | assumption | exact dT ‹_› | exact dF ‹_› | ((first | refine rowGet ?_ | refine getC ?_ rfl); (first | omega | (simp only [std, stdM]; omega) | grind)) | (refine set_row ?_; (simp only [List.length_map, List.length_set, mkTo_len]; omega)) | (refine mkToRow ?_; (first | omega | (simp only [std, stdM]; omega) | grind)) | (refine mkTo_row ?_ rfl; (first | omega | (simp only [std, stdM]; omega) | grind)) | (refine mkTo_step ?_ ?_; (first | omega | (simp only [std, stdM]; omega) | grind); (first | grind [mkTo_all, snocI, snocS, rowSnoc])) | (show (_ : St) = _; rfl) | grind [mkTo_all, snocI, snocS, rowSnoc]))
theorem c_markSyntaxS (x : Syntax) : ∀ (n : Int) (h0 : 0 <= n) (h : n + sumBy cY x.items <= 2147483647), P_c_markSyntaxS x n := Syntax.ind (P := fun x => ∀ (n : Int) (h0 : 0 <= n) (h : n + sumBy cY x.items <= 2147483647), P_c_markSyntaxS x n) (fun x ih n h0 h => c_markSyntaxS_s x n h0 h ih) x
theorem c_markSyntaxSL (L : List Syntax) (n : Int) (h0 : 0 <= n) (h : n + sumBy cY L <= 2147483647) : P_c_markSyntaxS { (default : Syntax) with items := L } n := c_markSyntaxS { (default : Syntax) with items := L } n h0 h
abbrev P_c_markBindingS (L : List Binding) (n : Int) : Prop := CallOK Tryz.prog 37 [.arr true 4 (L.map bindingC)] [.one (.ref 0), li n] [.arr true 4 ((seqM mkB cB L n).map bindingC)] (.sv (li (n + sumBy cB L)))
def Tc_markBindingSLa (L : List Binding) (n : Int) (x0 : SV) (x1 : SV) (x2 : Ob) : St := St.mk (regsOf 42 [(0, AV.sv (SV.one (AC.ref 0))), (1, AV.sv x1), (5, AV.sv x0)]) [x2] 1 
def Lc_markBindingSLa (L : List Binding) (n : Int) (k : Nat) : St := Tc_markBindingSLa L n (li (k : Int)) (li (n + (↑(sumBy cB (List.take k L)) : Int))) (Ob.arr true 4 (List.map
 bindingC (mkTo mkB cB L n k))) 
abbrev Ic_markBindingSLa (L : List Binding) (n : Int) : Nat -> St -> Prop := Head (Lc_markBindingSLa L n) (fun k => k <= List.length L /\ List.length L <= 9223372036854775807) fun k =>
 List.length L - k 
def W0c_markBindingSLa (L : List Binding) (n : Int) (x0 : SV) (x1 : Ob) : St := St.mk (regsOf 42 [(1, AV.sv x0)]) [x1] 1 
def Yc_markBindingSLa (L : List Binding) (n : Int) : List (Prop × AEx × St) := [(True, AEx.exit 0, W0c_markBindingSLa L n (li (n + (↑(sumBy cB L) : Int))) (Ob.arr true 4 (List.map
 bindingC (seqM mkB cB L n))))]

theorem Ec_markBindingSLa {L : List Binding} {n : Int} {k : Nat} {x0 : SV} {x1 : SV} {x2 : Ob} (h0 : x0 = (li (k : Int))) (h1 : x1 = (li (n + (↑(sumBy cB (List.take k L)) :
 Int)))) (h2 : x2 = (Ob.arr true 4 (List.map bindingC (mkTo mkB cB L n k)))) : Tc_markBindingSLa L n x0 x1 x2 = Lc_markBindingSLa L n k := by
  rw [h0, h1, h2]
  rfl
theorem EW0c_markBindingSLa {L : List Binding} {n : Int} {x0 y0 : SV} {x1 y1 : Ob} (h0 : x0 = y0) (h1 : x1 = y1) : W0c_markBindingSLa L n x0 x1 = W0c_markBindingSLa L n y0 y1 := by
 rw [h0, h1]
abbrev a5__markBindingSLa (L : List Binding) (k : Nat) := (List.getD L (Int.toNat (k : Int)) default)
abbrev a6__markBindingSLa (L : List Binding) (k : Nat) := (Binding.scopes (a5__markBindingSLa L k))
abbrev a7__markBindingSLa (L : List Binding) (n : Int) (k : Nat) := [cS (mText (n + (↑(sumBy cB (List.take k L)) : Int))), Cell.list (List.map intC (a6__markBindingSLa L k)), cI
 (Binding.kind (a5__markBindingSLa L k)), cI (Binding.number (a5__markBindingSLa L k))]
abbrev a1__markBindingSLa (L : List Binding) (n : Int) (k : Nat) := (List.set (List.map bindingC (mkTo mkB cB L n k)) (Int.toNat (k : Int)) (a7__markBindingSLa L n k))
abbrev a8__markBindingSLa (L : List Binding) (n : Int) (k : Nat) := (List.map intC (seqM mkI cOne (a6__markBindingSLa L k) (n + (↑(sumBy cB (List.take k L)) : Int) + 1)))
abbrev a2__markBindingSLa (L : List Binding) (n : Int) (k : Nat) := [cS (mText (n + (↑(sumBy cB (List.take k L)) : Int))), Cell.list (a8__markBindingSLa L n k), cI (n + (↑(sumBy cB
 (List.take k L)) : Int) + 1 + (↑(List.length (a6__markBindingSLa L k)) : Int)), cI (Binding.number (a5__markBindingSLa L k))]
abbrev a3__markBindingSLa (L : List Binding) (n : Int) (k : Nat) := [cS (mText (n + (↑(sumBy cB (List.take k L)) : Int))), Cell.list (a8__markBindingSLa L n k), cI (n + (↑(sumBy cB
 (List.take k L)) : Int) + 1 + (↑(List.length (a6__markBindingSLa L k)) : Int)), cI (n + (↑(sumBy cB (List.take k L)) : Int) + 1 + (↑(List.length (a6__markBindingSLa L k)) : Int) +
 1)]
abbrev a4__markBindingSLa (L : List Binding) (n : Int) (k : Nat) := [cS (mText (n + (↑(sumBy cB (List.take k L)) : Int))), Cell.list (a8__markBindingSLa L n k), cI (Binding.kind
 (a5__markBindingSLa L k)), cI (Binding.number (a5__markBindingSLa L k))]
theorem run_c_markBindingSLa (L : List Binding) (n : Int) (k : Nat) : aexec Tryz.prog (loopAt Tryz.f37 0) (Lc_markBindingSLa L n k) [.br [.call [Mode.rd] [] (AV.sv (ls (mText
 (n + (↑(sumBy cB (List.take k L)) : Int))))), .cells (bindingF (a5__markBindingSLa L k)), .sub, .subcall (a7__markBindingSLa L n k) (List.map intC (a6__markBindingSLa L
 k)) 1, .call [Mode.own true 1, Mode.rd] [Ob.arr true 1 (a8__markBindingSLa L n k)] (AV.sv (li (n + (↑(sumBy cB (List.take k L)) : Int) + 1 + (↑(List.length (a6__markBindingSLa
 L k)) : Int)))), .take (a4__markBindingSLa L n k) (List.set (a1__markBindingSLa L n k) (Int.toNat (k : Int)) (a2__markBindingSLa L n k)) 0, .take (a2__markBindingSLa L n k)
 (List.set (a1__markBindingSLa L n k) (Int.toNat (k : Int)) (a3__markBindingSLa L n k)) 0, .ghost (.sel [0] [0, 1, 5]), .goto (List.length L - (k + 1))
 (Lc_markBindingSLa L n (k + 1))] [.ghost (.sel [0] [1]), .out 0]] (loopK (Ic_markBindingSLa L n) (Yc_markBindingSLa L n) (List.length L - k)) = (List.length (List.map
 bindingC (mkTo mkB cB L n k)) <= 9223372036854775807 -> (decide ((k : Int) < (↑(List.length (List.map bindingC (mkTo mkB cB L n k))) : Int)) = true -> P_c_markText (n + (↑(sumBy cB
 (List.take k L)) : Int)) /\ (0 <= (k : Int) /\ Int.toNat (k : Int) < List.length (List.map bindingC (mkTo mkB cB L n k))) /\ (List.map bindingC (mkTo mkB cB L n k))[Int.toNat (↑k :
 Int)]? = some (bindingF (a5__markBindingSLa L k)) /\ rng .i64 (n + (↑(sumBy cB (List.take k L)) : Int) + 1) /\ (0 <= (k : Int) /\ Int.toNat (k : Int) < List.length
 (a1__markBindingSLa L n k)) /\ Int.toNat (k : Int) < List.length (a1__markBindingSLa L n k) /\ (a1__markBindingSLa L n k)[Int.toNat (k : Int)]? = some (a7__markBindingSLa L n k) /\
 some (Cell.list (List.map intC (a6__markBindingSLa L k))) = some (Cell.list (List.map intC (a6__markBindingSLa L k))) /\ (∀ (x : List Cell), x ∈ List.map intC (a6__markBindingSLa L
 k) -> List.length x = 1) /\ P_c_markIntS (a6__markBindingSLa L k) (n + (↑(sumBy cB (List.take k L)) : Int) + 1) /\ (0 <= (k : Int) /\ Int.toNat (k : Int) < List.length (List.set
 (a1__markBindingSLa L n k) (Int.toNat (k : Int)) (a4__markBindingSLa L n k))) /\ (List.set (a1__markBindingSLa L n k) (Int.toNat (k : Int)) (a4__markBindingSLa L n k))[Int.toNat
 (k : Int)]? = some (a4__markBindingSLa L n k) /\ List.set (List.set (a1__markBindingSLa L n k) (Int.toNat (k : Int)) (a4__markBindingSLa L n k)) (Int.toNat (k : Int))
 (a2__markBindingSLa L n k) = List.set (a1__markBindingSLa L n k) (Int.toNat (k : Int)) (a2__markBindingSLa L n k) /\ rng .i64 (n + (↑(sumBy cB (List.take k L)) : Int) + 1 +
 (↑(List.length (a6__markBindingSLa L k)) : Int) + 1) /\ (0 <= (k : Int) /\ Int.toNat (k : Int) < List.length (List.set (a1__markBindingSLa L n k) (Int.toNat (k : Int))
 (a2__markBindingSLa L n k))) /\ (List.set (a1__markBindingSLa L n k) (Int.toNat (k : Int)) (a2__markBindingSLa L n k))[Int.toNat (k : Int)]? = some (a2__markBindingSLa L n k) /\
 List.set (List.set (a1__markBindingSLa L n k) (Int.toNat (k : Int)) (a2__markBindingSLa L n k)) (Int.toNat (k : Int)) (a3__markBindingSLa L n k) = List.set (a1__markBindingSLa L
 n k) (Int.toNat (k : Int)) (a3__markBindingSLa L n k) /\ rng .i64 (n + (↑(sumBy cB (List.take k L)) : Int) + 1 + (↑(List.length (a6__markBindingSLa L k)) : Int) + 1 + 1) /\
 rng .i64 ((k : Int) + 1) /\ List.length L - (k + 1) < List.length L - k /\ Tc_markBindingSLa L n (li ((k : Int) + 1)) (li (n + (↑(sumBy cB (List.take k L)) : Int) + 1 +
 (↑(List.length (a6__markBindingSLa L k)) : Int) + 1 + 1)) (Ob.arr true 4 (List.set (a1__markBindingSLa L n k) (Int.toNat (k : Int)) (a3__markBindingSLa L n k))) =
 Lc_markBindingSLa L n (k + 1) /\ Ic_markBindingSLa L n (List.length L - (k + 1)) (Lc_markBindingSLa L n (k + 1))) /\ (decide ((k : Int) < (↑(List.length (List.map bindingC (mkTo
 mkB cB L n k))) : Int)) = false -> True /\ W0c_markBindingSLa L n (li (n + (↑(sumBy cB (List.take k L)) : Int))) (Ob.arr true 4 (List.map bindingC (mkTo mkB cB L n k))) =
 W0c_markBindingSLa L n (li (n + (↑(sumBy cB L) : Int))) (Ob.arr true 4 (List.map bindingC (seqM mkB cB L n))))) := by kernel_rfl
theorem Sc_markBindingSLa (L : List Binding) (n : Int) (h0 : 0 <= n) (h : n + (↑(sumBy cB L) : Int) <= 2147483647)  : LoopSem Tryz.prog (loopAt Tryz.f37 0) (Ic_markBindingSLa L n)
 (Yc_markBindingSLa L n) := by
  refine LoopSem.ofHead wide fun k h => ⟨_, _, run_c_markBindingSLa L n k, ?_⟩
  try delta a5__markBindingSLa a6__markBindingSLa a7__markBindingSLa a1__markBindingSLa a8__markBindingSLa a2__markBindingSLa a3__markBindingSLa a4__markBindingSLa
  have g0 := sumBy_takeLe cB L (k + 1)
  with_reducible repeat' (first | apply And.intro | exact flatI | exact flatS | exact rowLens | (intro; skip) | apply obsN | apply obsC | apply obA | apply obM | apply obB | apply svA | apply tupA | apply lcA | apply lcS | apply svC | apply liC | apply lbC | apply lsC | apply vIc | apply vBc | apply vSc | apply vLc | apply mapC | apply hdI | apply Ec_markBindingSLa | apply EW0c_markBindingSLa | apply c_markText | apply c_markIntS)
  all_goals (try simp only [std, stdM] at *)
  all_goals (try (first | with_reducible apply c_markText | with_reducible apply c_markIntS | (simp only [<- List.map_append]; first | with_reducible apply c_markText | with_reducible apply c_markIntS)))
  all_goals (try (first | with_reducible rfl | omega | assumption | exact dT ‹_› | exact dF ‹_› | ((first | refine rowGet ?_ | refine getC ?_ rfl); (first | omega | (simp only [std, stdM]; omega) | grind)) | (refine set_row ?_; (simp only [List.length_map, List.length_set, mkTo_len]; omega)) | (refine mkToRow ?_; (first | omega | (simp only [std, stdM]; omega) | grind)) | (refine mkTo_row ?_ rfl; (first | omega | (simp only [std, stdM]; omega) | grind)) | (refine mkTo_step ?_ ?_; (first | omega | (simp only [std, stdM]; omega) | grind); (first | exact mkB_C _ _ | grind [sumBy_step, getD_mem', cB_eq, mkB_C, mkTo_all, snocI, snocS, rowSnoc])) | (show (_ : St) = _; rfl) | grind [sumBy_step, getD_mem', cB_eq, mkB_C, mkTo_all, snocI, snocS, rowSnoc]))
theorem run_c_markBindingS (L : List Binding) (n : Int) : aexec Tryz.prog (Tryz.f37.body.getD .skip) (entry [Ob.arr true 4 (List.map bindingC L)] [SV.one (AC.ref
 0), li n] 42) [.ghost (.sel [0] [0, 1, 5]), .loop (List.length L - 0) (Lc_markBindingSLa L n 0) (Ic_markBindingSLa L n) [(True, AEx.exit 0, W0c_markBindingSLa L n (li
 (n + (↑(sumBy cB L) : Int))) (Ob.arr true 4 (List.map bindingC (seqM mkB cB L n))), [.fin []])]] (finK Tryz.prog [ResultVar.tmp 4] [Ob.arr true 4 (List.map bindingC (seqM mkB
 cB L n))] (AV.sv (li (n + (↑(sumBy cB L) : Int))))) = (Tc_markBindingSLa L n (li 0) (li n) (Ob.arr true 4 (List.map bindingC L)) = Lc_markBindingSLa L n 0 /\ Ic_markBindingSLa L n
 (List.length L - 0) (Lc_markBindingSLa L n 0) /\ LoopSem Tryz.prog (loopAt Tryz.f37 0) (Ic_markBindingSLa L n) (Yc_markBindingSLa L n) /\ (True -> ObsEq [Ob.arr true 4 (List.map
 bindingC (seqM mkB cB L n))] [Ob.arr true 4 (List.map bindingC (seqM mkB cB L n))] /\ AV.sv (li (n + (↑(sumBy cB L) : Int))) = AV.sv (li (n + (↑(sumBy cB L) : Int)))) /\ True) := by
 kernel_rfl
theorem c_markBindingS (L : List Binding) (n : Int) (h0 : 0 <= n) (h : n + sumBy cB L <= 2147483647)  : P_c_markBindingS L n := by
  refine CallOK.ofRun wide (run_c_markBindingS L n) Tryz.call37 Tryz.func37 rfl rfl rfl ?_
  have gl := cB_len L
  with_reducible repeat' (first | apply And.intro | exact flatI | exact flatS | exact rowLens | (intro; skip) | apply obsN | apply obsC | apply obA | apply obM | apply obB | apply svA | apply tupA | apply lcA | apply lcS | apply svC | apply liC | apply lbC | apply lsC | apply vIc | apply vBc | apply vSc | apply vLc | apply mapC | apply hdI | apply Ec_markBindingSLa | apply Sc_markBindingSLa | apply EW0c_markBindingSLa | apply c_markText | apply c_markIntS)
  all_goals (try simp only [std, stdM] at *)
  all_goals (try (first | with_reducible apply c_markText | with_reducible apply c_markIntS | (simp only [<- List.map_append]; first | with_reducible apply c_markText | with_reducible apply c_markIntS)))
  all_goals (try (first | with_reducible rfl | omega | assumption | exact dT ‹_› | exact dF ‹_› | ((first | refine rowGet ?_ | refine getC ?_ rfl); (first | omega | (simp only [std, stdM]; omega) | grind)) | (refine set_row ?_; (simp only [List.length_map, List.length_set, mkTo_len]; omega)) | (refine mkToRow ?_; (first | omega | (simp only [std, stdM]; omega) | grind)) | (refine mkTo_row ?_ rfl; (first | omega | (simp only [std, stdM]; omega) | grind)) | (refine mkTo_step ?_ ?_; (first | omega | (simp only [std, stdM]; omega) | grind); (first | grind [mkTo_all, snocI, snocS, rowSnoc])) | (show (_ : St) = _; rfl) | grind [mkTo_all, snocI, snocS, rowSnoc]))
abbrev P_c_markRulesS (L : List Rules) (n : Int) : Prop := CallOK Tryz.prog 110 [.arr true 3 (L.map rulesC)] [.one (.ref 0), li n] [.arr true 3 ((seqM mkR cR L n).map rulesC)] (.sv (li (n + sumBy cR L)))
def Tc_markRulesSLa (L : List Rules) (n : Int) (x0 : SV) (x1 : SV) (x2 : Ob) : St := St.mk (regsOf 34 [(0, AV.sv (SV.one (AC.ref 0))), (1, AV.sv x1), (5, AV.sv x0)]) [x2] 1 
def Lc_markRulesSLa (L : List Rules) (n : Int) (k : Nat) : St := Tc_markRulesSLa L n (li (k : Int)) (li (n + (↑(sumBy cR (List.take k L)) : Int))) (Ob.arr true 3 (List.map rulesC
 (mkTo mkR cR L n k))) 
abbrev Ic_markRulesSLa (L : List Rules) (n : Int) : Nat -> St -> Prop := Head (Lc_markRulesSLa L n) (fun k => k <= List.length L /\ List.length L <= 9223372036854775807) fun k =>
 List.length L - k 
def W0c_markRulesSLa (L : List Rules) (n : Int) (x0 : SV) (x1 : Ob) : St := St.mk (regsOf 34 [(1, AV.sv x0)]) [x1] 1 
def Yc_markRulesSLa (L : List Rules) (n : Int) : List (Prop × AEx × St) := [(True, AEx.exit 0, W0c_markRulesSLa L n (li (n + (↑(sumBy cR L) : Int))) (Ob.arr true 3 (List.map rulesC
 (seqM mkR cR L n))))]

theorem Ec_markRulesSLa {L : List Rules} {n : Int} {k : Nat} {x0 : SV} {x1 : SV} {x2 : Ob} (h0 : x0 = (li (k : Int))) (h1 : x1 = (li (n + (↑(sumBy cR (List.take k L)) : Int))))
 (h2 : x2 = (Ob.arr true 3 (List.map rulesC (mkTo mkR cR L n k)))) : Tc_markRulesSLa L n x0 x1 x2 = Lc_markRulesSLa L n k := by
  rw [h0, h1, h2]
  rfl
theorem EW0c_markRulesSLa {L : List Rules} {n : Int} {x0 y0 : SV} {x1 y1 : Ob} (h0 : x0 = y0) (h1 : x1 = y1) : W0c_markRulesSLa L n x0 x1 = W0c_markRulesSLa L n y0 y1 := by rw [h0,
 h1]
abbrev a8__markRulesSLa (L : List Rules) (k : Nat) := (Rules.literals (List.getD L k default))
abbrev a5__markRulesSLa (L : List Rules) (n : Int) (k : Nat) := (List.map syntaxC (seqM mkY cY (a8__markRulesSLa L k) (n + (↑(sumBy cR (List.take k L)) : Int))))
abbrev a7__markRulesSLa (L : List Rules) (k : Nat) := (Rules.templates (List.getD L k default))
abbrev a2__markRulesSLa (L : List Rules) (n : Int) (k : Nat) := [Cell.list (a5__markRulesSLa L n k), Cell.list (List.map syntaxC (Rules.patterns (List.getD L k default))),
 Cell.list (List.map syntaxC (a7__markRulesSLa L k))]
abbrev a9__markRulesSLa (L : List Rules) (n : Int) (k : Nat) := (List.set (List.map rulesC (mkTo mkR cR L n k)) (Int.toNat (k : Int)) (a2__markRulesSLa L n k))
abbrev a3__markRulesSLa (L : List Rules) (n : Int) (k : Nat) := (List.map syntaxC (seqM mkY cY (Rules.patterns (List.getD L k default)) (n + (↑(sumBy cR (List.take k L)) : Int) +
 (↑(sumBy cY (a8__markRulesSLa L k)) : Int))))
abbrev a10__markRulesSLa (L : List Rules) (n : Int) (k : Nat) := [Cell.list (a5__markRulesSLa L n k), Cell.list (a3__markRulesSLa L n k), Cell.list (List.map syntaxC
 (a7__markRulesSLa L k))]
abbrev a1__markRulesSLa (L : List Rules) (n : Int) (k : Nat) := (List.set (a9__markRulesSLa L n k) (Int.toNat (k : Int)) (a10__markRulesSLa L n k))
abbrev a4__markRulesSLa (L : List Rules) (n : Int) (k : Nat) := (n + (↑(sumBy cR (List.take k L)) : Int) + (↑(sumBy cY (a8__markRulesSLa L k)) : Int) + (↑(sumBy cY (Rules.patterns
 (List.getD L k default))) : Int))
abbrev a6__markRulesSLa (L : List Rules) (n : Int) (k : Nat) := (li (n + (↑(sumBy cR (List.take k L)) : Int) + (↑(sumBy cY (a8__markRulesSLa L k)) : Int) + (↑(sumBy cY
 (Rules.patterns (List.getD L k default))) : Int) + (↑(sumBy cY (a7__markRulesSLa L k)) : Int)))
theorem run_c_markRulesSLa (L : List Rules) (n : Int) (k : Nat) : aexec Tryz.prog (loopAt Tryz.f110 0) (Lc_markRulesSLa L n k) [.br [.sub, .subcall (rulesF (List.getD L k
 default)) (List.map syntaxC (a8__markRulesSLa L k)) 5, .call [Mode.own true 5, Mode.rd] [Ob.arr true 5 (a5__markRulesSLa L n k)] (AV.sv (li (n + (↑(sumBy cR (List.take k L)) :
 Int) + (↑(sumBy cY (a8__markRulesSLa L k)) : Int)))), .sub, .subcall (a2__markRulesSLa L n k) (List.map syntaxC (Rules.patterns (List.getD L k default))) 5, .call
 [Mode.own true 5, Mode.rd] [Ob.arr true 5 (a3__markRulesSLa L n k)] (AV.sv (li (a4__markRulesSLa L n k))), .sub, .subcall (a10__markRulesSLa L n k) (List.map syntaxC
 (a7__markRulesSLa L k)) 5, .call [Mode.own true 5, Mode.rd] [Ob.arr true 5 (List.map syntaxC (seqM mkY cY (a7__markRulesSLa L k) (a4__markRulesSLa L n k)))] (AV.sv
 (a6__markRulesSLa L n k)), .ghost (.sel [0] [0, 1, 5]), .goto (List.length L - (k + 1)) (Lc_markRulesSLa L n (k + 1))] [.ghost (.sel [0] [1]), .out 0]]
 (loopK (Ic_markRulesSLa L n) (Yc_markRulesSLa L n) (List.length L - k)) = (List.length (List.map rulesC (mkTo mkR cR L n k)) <= 9223372036854775807 -> (decide ((k : Int) <
 (↑(List.length (List.map rulesC (mkTo mkR cR L n k))) : Int)) = true -> (0 <= (k : Int) /\ Int.toNat (k : Int) < List.length (List.map rulesC (mkTo mkR cR L n k))) /\ Int.toNat (↑k
 : Int) < List.length (List.map rulesC (mkTo mkR cR L n k)) /\ (List.map rulesC (mkTo mkR cR L n k))[Int.toNat (k : Int)]? = some (rulesF (List.getD L k default)) /\ some (Cell.list
 (List.map syntaxC (a8__markRulesSLa L k))) = some (Cell.list (List.map syntaxC (a8__markRulesSLa L k))) /\ (∀ (x : List Cell), x ∈ List.map syntaxC (a8__markRulesSLa L k) ->
 List.length x = 5) /\ CallOK Tryz.prog 38 [Ob.arr true 5 (List.map syntaxC (a8__markRulesSLa L k))] [SV.one (AC.ref 0), li (n + (↑(sumBy cR (List.take k L)) : Int))] [Ob.arr true 5
 (a5__markRulesSLa L n k)] (AV.sv (li (n + (↑(sumBy cR (List.take k L)) : Int) + (↑(sumBy cY (a8__markRulesSLa L k)) : Int)))) /\ (0 <= (k : Int) /\ Int.toNat (k : Int) <
 List.length (a9__markRulesSLa L n k)) /\ Int.toNat (k : Int) < List.length (a9__markRulesSLa L n k) /\ (a9__markRulesSLa L n k)[Int.toNat (k : Int)]? = some (a2__markRulesSLa L n
 k) /\ some (Cell.list (List.map syntaxC (Rules.patterns (List.getD L k default)))) = some (Cell.list (List.map syntaxC (Rules.patterns (List.getD L k default)))) /\ (∀ (x : List
 Cell), x ∈ List.map syntaxC (Rules.patterns (List.getD L k default)) -> List.length x = 5) /\ CallOK Tryz.prog 38 [Ob.arr true 5 (List.map syntaxC (Rules.patterns (List.getD L k
 default)))] [SV.one (AC.ref 0), li (n + (↑(sumBy cR (List.take k L)) : Int) + (↑(sumBy cY (a8__markRulesSLa L k)) : Int))] [Ob.arr true 5 (a3__markRulesSLa L n k)] (AV.sv (li
 (a4__markRulesSLa L n k))) /\ (0 <= (k : Int) /\ Int.toNat (k : Int) < List.length (a1__markRulesSLa L n k)) /\ Int.toNat (k : Int) < List.length (a1__markRulesSLa L n k) /\
 (a1__markRulesSLa L n k)[Int.toNat (k : Int)]? = some (a10__markRulesSLa L n k) /\ some (Cell.list (List.map syntaxC (a7__markRulesSLa L k))) = some (Cell.list (List.map syntaxC
 (a7__markRulesSLa L k))) /\ (∀ (x : List Cell), x ∈ List.map syntaxC (a7__markRulesSLa L k) -> List.length x = 5) /\ CallOK Tryz.prog 38 [Ob.arr true 5 (List.map syntaxC
 (a7__markRulesSLa L k))] [SV.one (AC.ref 0), li (a4__markRulesSLa L n k)] [Ob.arr true 5 (List.map syntaxC (seqM mkY cY (a7__markRulesSLa L k) (a4__markRulesSLa L n k)))] (AV.sv
 (a6__markRulesSLa L n k)) /\ rng .i64 ((k : Int) + 1) /\ List.length L - (k + 1) < List.length L - k /\ Tc_markRulesSLa L n (li ((k : Int) + 1)) (a6__markRulesSLa L n k)
 (Ob.arr true 3 (List.set (a1__markRulesSLa L n k) (Int.toNat (k : Int)) [Cell.list (a5__markRulesSLa L n k), Cell.list (a3__markRulesSLa L n k), Cell.list (List.map syntaxC (seqM
 mkY cY (a7__markRulesSLa L k) (a4__markRulesSLa L n k)))])) = Lc_markRulesSLa L n (k + 1) /\ Ic_markRulesSLa L n (List.length L - (k + 1)) (Lc_markRulesSLa L n (k + 1))) /\ (decide
 ((k : Int) < (↑(List.length (List.map rulesC (mkTo mkR cR L n k))) : Int)) = false -> True /\ W0c_markRulesSLa L n (li (n + (↑(sumBy cR (List.take k L)) : Int))) (Ob.arr true 3
 (List.map rulesC (mkTo mkR cR L n k))) = W0c_markRulesSLa L n (li (n + (↑(sumBy cR L) : Int))) (Ob.arr true 3 (List.map rulesC (seqM mkR cR L n))))) := by kernel_rfl
theorem Sc_markRulesSLa (L : List Rules) (n : Int) (h0 : 0 <= n) (h : n + (↑(sumBy cR L) : Int) <= 2147483647) (h2 : List.length L <= 2147483647)  : LoopSem Tryz.prog (loopAt
 Tryz.f110 0) (Ic_markRulesSLa L n) (Yc_markRulesSLa L n) := by
  refine LoopSem.ofHead wide fun k h => ⟨_, _, run_c_markRulesSLa L n k, ?_⟩
  try delta a8__markRulesSLa a5__markRulesSLa a7__markRulesSLa a2__markRulesSLa a9__markRulesSLa a3__markRulesSLa a10__markRulesSLa a1__markRulesSLa a4__markRulesSLa a6__markRulesSLa
  have g0 := sumBy_takeLe cR L (k + 1)
  with_reducible repeat' (first | apply And.intro | exact flatI | exact flatS | exact rowLens | (intro; skip) | apply obsN | apply obsC | apply obA | apply obM | apply obB | apply svA | apply tupA | apply lcA | apply lcS | apply svC | apply liC | apply lbC | apply lsC | apply vIc | apply vBc | apply vSc | apply vLc | apply mapC | apply hdI | apply Ec_markRulesSLa | apply EW0c_markRulesSLa | apply c_markSyntaxS | apply c_markSyntaxSL)
  all_goals (try simp only [std, stdM] at *)
  all_goals (try (first | with_reducible apply c_markSyntaxS | with_reducible apply c_markSyntaxSL | (simp only [<- List.map_append]; first | with_reducible apply c_markSyntaxS | with_reducible apply c_markSyntaxSL)))
  all_goals (try (first | with_reducible rfl | omega | assumption | exact dT ‹_› | exact dF ‹_› | ((first | refine rowGet ?_ | refine getC ?_ rfl); (first | omega | (simp only [std, stdM]; omega) | grind)) | (refine set_row ?_; (simp only [List.length_map, List.length_set, mkTo_len]; omega)) | (refine mkToRow ?_; (first | omega | (simp only [std, stdM]; omega) | grind)) | (refine mkTo_row ?_ rfl; (first | omega | (simp only [std, stdM]; omega) | grind)) | (refine mkTo_step ?_ ?_; (first | omega | (simp only [std, stdM]; omega) | grind); (first | exact mkR_C _ _ | grind [sumBy_step, getD_mem', cR_eq, mkR_C, mkTo_all, snocI, snocS, rowSnoc])) | (show (_ : St) = _; rfl) | grind [sumBy_step, getD_mem', cR_eq, mkR_C, mkTo_all, snocI, snocS, rowSnoc]))
theorem run_c_markRulesS (L : List Rules) (n : Int) : aexec Tryz.prog (Tryz.f110.body.getD .skip) (entry [Ob.arr true 3 (List.map rulesC L)] [SV.one (AC.ref 0),
 li n] 34) [.ghost (.sel [0] [0, 1, 5]), .loop (List.length L - 0) (Lc_markRulesSLa L n 0) (Ic_markRulesSLa L n) [(True, AEx.exit 0, W0c_markRulesSLa L n (li (n +
 (↑(sumBy cR L) : Int))) (Ob.arr true 3 (List.map rulesC (seqM mkR cR L n))), [.fin []])]] (finK Tryz.prog [ResultVar.tmp 4] [Ob.arr true 3 (List.map rulesC (seqM mkR cR L n))]
 (AV.sv (li (n + (↑(sumBy cR L) : Int))))) = (Tc_markRulesSLa L n (li 0) (li n) (Ob.arr true 3 (List.map rulesC L)) = Lc_markRulesSLa L n 0 /\ Ic_markRulesSLa L n (List.length L -
 0) (Lc_markRulesSLa L n 0) /\ LoopSem Tryz.prog (loopAt Tryz.f110 0) (Ic_markRulesSLa L n) (Yc_markRulesSLa L n) /\ (True -> ObsEq [Ob.arr true 3 (List.map rulesC (seqM mkR cR L n))]
 [Ob.arr true 3 (List.map rulesC (seqM mkR cR L n))] /\ AV.sv (li (n + (↑(sumBy cR L) : Int))) = AV.sv (li (n + (↑(sumBy cR L) : Int)))) /\ True) := by kernel_rfl
theorem c_markRulesS (L : List Rules) (n : Int) (h0 : 0 <= n) (h : n + sumBy cR L <= 2147483647) (h2 : L.length <= 2147483647)  : P_c_markRulesS L n := by
  refine CallOK.ofRun wide (run_c_markRulesS L n) Tryz.call110 Tryz.func110 rfl rfl rfl ?_
  with_reducible repeat' (first | apply And.intro | exact flatI | exact flatS | exact rowLens | (intro; skip) | apply obsN | apply obsC | apply obA | apply obM | apply obB | apply svA | apply tupA | apply lcA | apply lcS | apply svC | apply liC | apply lbC | apply lsC | apply vIc | apply vBc | apply vSc | apply vLc | apply mapC | apply hdI | apply Ec_markRulesSLa | apply Sc_markRulesSLa | apply EW0c_markRulesSLa | apply c_markSyntaxS | apply c_markSyntaxSL)
  all_goals (try simp only [std, stdM] at *)
  all_goals (try (first | with_reducible apply c_markSyntaxS | with_reducible apply c_markSyntaxSL | (simp only [<- List.map_append]; first | with_reducible apply c_markSyntaxS | with_reducible apply c_markSyntaxSL)))
  all_goals (try (first | with_reducible rfl | omega | assumption | exact dT ‹_› | exact dF ‹_› | ((first | refine rowGet ?_ | refine getC ?_ rfl); (first | omega | (simp only [std, stdM]; omega) | grind)) | (refine set_row ?_; (simp only [List.length_map, List.length_set, mkTo_len]; omega)) | (refine mkToRow ?_; (first | omega | (simp only [std, stdM]; omega) | grind)) | (refine mkTo_row ?_ rfl; (first | omega | (simp only [std, stdM]; omega) | grind)) | (refine mkTo_step ?_ ?_; (first | omega | (simp only [std, stdM]; omega) | grind); (first | grind [mkTo_all, snocI, snocS, rowSnoc])) | (show (_ : St) = _; rfl) | grind [mkTo_all, snocI, snocS, rowSnoc]))
abbrev P_c_markExpander (x : Expander) (n : Int) : Prop := CallOK Tryz.prog 49 [.arr true 4 (x.bindings.map bindingC), .arr true 3 (x.macros.map rulesC)] [.agg [.ref 0, .ref 1, vI x.scope, vI x.vari, vI x.steps], li n] [.arr true 4 ((seqM mkB cB x.bindings (n)).map bindingC), .arr true 3 ((seqM mkR cR x.macros (n + sumBy cB x.bindings)).map rulesC)] (.sv (li (n + sumBy cB x.bindings + sumBy cR x.macros)))
abbrev a1_c_markExpander (x : Expander) (n : Int) := [Ob.arr true 4 (List.map bindingC (seqM mkB cB (Expander.bindings x) n)), Ob.arr true 3 (List.map rulesC (seqM mkR cR
 (Expander.macros x) (n + (↑(sumBy cB (Expander.bindings x)) : Int))))]
abbrev a2_c_markExpander (x : Expander) (n : Int) := (li (n + (↑(sumBy cB (Expander.bindings x)) : Int) + (↑(sumBy cR (Expander.macros x)) : Int)))
theorem run_c_markExpander (x : Expander) (n : Int) : aexec Tryz.prog (Tryz.f49.body.getD .skip) (entry [Ob.arr true 4 (List.map bindingC (Expander.bindings x)),
 Ob.arr true 3 (List.map rulesC (Expander.macros x))] [SV.agg [AC.ref 0, AC.ref 1, vI (Expander.scope x), vI (Expander.vari x), vI (Expander.steps x)], li n] 14) [.call
 [Mode.own true 4, Mode.rd] [Ob.arr true 4 (List.map bindingC (seqM mkB cB (Expander.bindings x) n))] (AV.sv (li (n + (↑(sumBy cB (Expander.bindings x)) : Int)))), .call
 [Mode.own true 3, Mode.rd] [Ob.arr true 3 (List.map rulesC (seqM mkR cR (Expander.macros x) (n + (↑(sumBy cB (Expander.bindings x)) : Int))))] (AV.sv (a2_c_markExpander x n)),
 .fin []] (finK Tryz.prog [ResultVar.tmp 4] (a1_c_markExpander x n) (AV.sv (a2_c_markExpander x n))) = (P_c_markBindingS (Expander.bindings x) n /\ P_c_markRulesS
 (Expander.macros x) (n + (↑(sumBy cB (Expander.bindings x)) : Int)) /\ ObsEq (a1_c_markExpander x n) (a1_c_markExpander x n) /\ AV.sv (a2_c_markExpander x n) = AV.sv
 (a2_c_markExpander x n)) := by kernel_rfl
theorem c_markExpander (x : Expander) (n : Int) (h0 : 0 <= n) (h : n + (sumBy cB x.bindings + sumBy cR x.macros : Nat) <= 2147483647) (h21 : x.macros.length <= 2147483647)  :
 P_c_markExpander x n := by
  refine CallOK.ofRun wide (run_c_markExpander x n) Tryz.call49 Tryz.func49 rfl rfl rfl ?_
  try delta a1_c_markExpander a2_c_markExpander
  with_reducible repeat' (first | apply And.intro | exact flatI | exact flatS | exact rowLens | (intro; skip) | apply obsN | apply obsC | apply obA | apply obM | apply obB | apply svA | apply tupA | apply lcA | apply lcS | apply svC | apply liC | apply lbC | apply lsC | apply vIc | apply vBc | apply vSc | apply vLc | apply mapC | apply c_markBindingS | apply c_markRulesS)
  all_goals (try simp only [std, stdM] at *)
  all_goals (try (first | with_reducible apply c_markBindingS | with_reducible apply c_markRulesS | (simp only [<- List.map_append]; first | with_reducible apply c_markBindingS | with_reducible apply c_markRulesS)))
  all_goals (try (first | with_reducible rfl | omega | assumption | exact dT ‹_› | exact dF ‹_› | ((first | refine rowGet ?_ | refine getC ?_ rfl); (first | omega | (simp only [std, stdM]; omega) | grind)) | (refine set_row ?_; (simp only [List.length_map, List.length_set, mkTo_len]; omega)) | (refine mkToRow ?_; (first | omega | (simp only [std, stdM]; omega) | grind)) | (refine mkTo_row ?_ rfl; (first | omega | (simp only [std, stdM]; omega) | grind)) | (refine mkTo_step ?_ ?_; (first | omega | (simp only [std, stdM]; omega) | grind); (first | grind [snocI, snocS, rowSnoc])) | (show (_ : St) = _; rfl) | grind [snocI, snocS, rowSnoc]))
end Go.Proofs.YtegbadciefljcaaGreat
end
section
namespace Go.Proofs.YtegbadciefljcaaGreat
open Go Go.Proofs.YtegbadciefljcaaGreat.Ab
set_option linter.unusedVariables false
set_option linter.unusedSimpArgs false
set_option maxHeartbeats 4000000
abbrev P_c_heldIntS (L : List Int) (n : Int) : Prop := CallOK Tryz.prog 78 [] [ll (L.map intC), li n] [] (.sv (li (n + L.length)))
def Tc_heldIntSLa (L : List Int) (n : Int) (x0 : SV) (x1 : SV) : St := St.mk (regsOf 21 [(0, AV.sv (ll (List.map intC L))), (1, AV.sv x1), (5, AV.sv x0)]) [] 0 
def Lc_heldIntSLa (L : List Int) (n : Int) (k : Nat) : St := Tc_heldIntSLa L n (li (k : Int)) (li (n + (k : Int))) 
abbrev Ic_heldIntSLa (L : List Int) (n : Int) : Nat -> St -> Prop := Head (Lc_heldIntSLa L n) (fun k => k <= List.length L /\ List.length L <= 9223372036854775807) fun k => List.length L -
 k 
def W0c_heldIntSLa (L : List Int) (n : Int) (x0 : SV) : St := St.mk (regsOf 21 [(1, AV.sv x0)]) [] 0 
def W1c_heldIntSLa (L : List Int) (n : Int) (x0 : SV) : St := St.mk (regsOf 21 [(4, AV.sv x0)]) [] 0 
def Yc_heldIntSLa (L : List Int) (n : Int) : List (Prop × AEx × St) := [(True, AEx.exit 0, W0c_heldIntSLa L n (li (n + (↑(List.length L) : Int)))), (False, AEx.ret, W1c_heldIntSLa
 L n (li (-1 : Int)))]

theorem Ec_heldIntSLa {L : List Int} {n : Int} {k : Nat} {x0 : SV} {x1 : SV} (h0 : x0 = (li (k : Int))) (h1 : x1 = (li (n + (k : Int)))) : Tc_heldIntSLa L n x0 x1 = Lc_heldIntSLa
 L n k := by
  rw [h0, h1]
  rfl
theorem EW0c_heldIntSLa {L : List Int} {n : Int} {x0 y0 : SV} (h0 : x0 = y0) : W0c_heldIntSLa L n x0 = W0c_heldIntSLa L n y0 := by rw [h0]
theorem EW1c_heldIntSLa {L : List Int} {n : Int} {x0 y0 : SV} (h0 : x0 = y0) : W1c_heldIntSLa L n x0 = W1c_heldIntSLa L n y0 := by rw [h0]
theorem run_c_heldIntSLa (L : List Int) (n : Int) (k : Nat) : aexec Tryz.prog (loopAt Tryz.f78 0) (Lc_heldIntSLa L n k) [.br [.cells (intC (List.getD L k default)), .br
 [.ghost (.sel [] [4]), .out 1] [.ghost (.sel [] [0, 1, 5]), .goto (List.length L - (k + 1)) (Lc_heldIntSLa L n (k + 1))]] [.ghost (.sel [] [1]),
 .out 0]] (loopK (Ic_heldIntSLa L n) (Yc_heldIntSLa L n) (List.length L - k)) = (List.length (List.map intC L) <= 9223372036854775807 -> (decide ((k : Int) < (↑(List.length
 (List.map intC L)) : Int)) = true -> (0 <= (k : Int) /\ (List.map intC L)[Int.toNat (k : Int)]? = some [cI (List.getD L k 0)]) /\ (decide (List.getD L k (0 : Int) ≠ n + (k : Int))
 = true -> False /\ W1c_heldIntSLa L n (li (-1 : Int)) = W1c_heldIntSLa L n (li (-1 : Int))) /\ (decide (List.getD L k (0 : Int) ≠ n + (k : Int)) = false -> rng .i64 (n + (↑k :
 Int) + 1) /\ rng .i64 ((k : Int) + 1) /\ List.length L - (k + 1) < List.length L - k /\ Tc_heldIntSLa L n (li ((k : Int) + 1)) (li (n + (k : Int) + 1)) = Lc_heldIntSLa L n
 (k + 1) /\ Ic_heldIntSLa L n (List.length L - (k + 1)) (Lc_heldIntSLa L n (k + 1)))) /\ (decide ((k : Int) < (↑(List.length (List.map intC L)) : Int)) = false -> True /\
 W0c_heldIntSLa L n (li (n + (k : Int))) = W0c_heldIntSLa L n (li (n + (↑(List.length L) : Int))))) := by kernel_rfl
theorem Sc_heldIntSLa (L : List Int) (n : Int) (h0 : 0 <= n) (h : n + (↑(List.length L) : Int) <= 2147483647) (hm : seqM mkI cOne L n = L)  : LoopSem Tryz.prog (loopAt Tryz.f78 0)
 (Ic_heldIntSLa L n) (Yc_heldIntSLa L n) := by
  refine LoopSem.ofHead wide fun k h => ⟨_, _, run_c_heldIntSLa L n k, ?_⟩
  with_reducible repeat' (first | apply And.intro | exact flatI | exact flatS | exact rowLens | (intro; skip) | apply obsN | apply obsC | apply obA | apply obM | apply obB | apply svA | apply tupA | apply lcA | apply lcS | apply svC | apply liC | apply lbC | apply lsC | apply vIc | apply vBc | apply vSc | apply vLc | apply mapC | apply hdI | apply Ec_heldIntSLa | apply EW0c_heldIntSLa | apply EW1c_heldIntSLa)
  all_goals (try simp only [std, stdM] at *)
  all_goals (try (first | with_reducible rfl | omega | assumption | exact dT ‹_› | exact dF ‹_› | ((first | refine rowGet ?_ | refine getC ?_ rfl); (first | omega | (simp only [std, stdM]; omega) | grind)) | (refine set_row ?_; (simp only [List.length_map, List.length_set, mkTo_len]; omega)) | (refine mkToRow ?_; (first | omega | (simp only [std, stdM]; omega) | grind)) | (refine mkTo_row ?_ rfl; (first | omega | (simp only [std, stdM]; omega) | grind)) | (refine mkTo_step ?_ ?_; (first | omega | (simp only [std, stdM]; omega) | grind); (first | grind [seqI_get hm, snocI, snocS, rowSnoc])) | (show (_ : St) = _; rfl) | grind [seqI_get hm, snocI, snocS, rowSnoc]))
theorem run_c_heldIntS (L : List Int) (n : Int) : aexec Tryz.prog (Tryz.f78.body.getD .skip) (entry [] [ll (List.map intC L), li n] 21) [.ghost (.sel []
 [0, 1, 5]), .loop (List.length L - 0) (Lc_heldIntSLa L n 0) (Ic_heldIntSLa L n) [(True, AEx.exit 0, W0c_heldIntSLa L n (li (n + (↑(List.length L) : Int))), [.fin []]),
 (False, AEx.ret, W1c_heldIntSLa L n (li (-1 : Int)), [.fin []])]] (finK Tryz.prog [ResultVar.tmp 4] [] (AV.sv (li (n + (↑(List.length L) : Int))))) = (Tc_heldIntSLa L n (li 0)
 (li n) = Lc_heldIntSLa L n 0 /\ Ic_heldIntSLa L n (List.length L - 0) (Lc_heldIntSLa L n 0) /\ LoopSem Tryz.prog (loopAt Tryz.f78 0) (Ic_heldIntSLa L n) (Yc_heldIntSLa L n) /\ (True
 -> ObsEq [] [] /\ AV.sv (li (n + (↑(List.length L) : Int))) = AV.sv (li (n + (↑(List.length L) : Int)))) /\ (False -> ObsEq [] [] /\ AV.sv (li (-1 : Int)) = AV.sv (li (n +
 (↑(List.length L) : Int)))) /\ True) := by kernel_rfl
theorem c_heldIntS (L : List Int) (n : Int) (h0 : 0 <= n) (h : n + L.length <= 2147483647) (hm : seqM mkI cOne L n = L)  : P_c_heldIntS L n := by
  refine CallOK.ofRun wide (run_c_heldIntS L n) Tryz.call78 Tryz.func78 rfl rfl rfl ?_
  with_reducible repeat' (first | apply And.intro | exact flatI | exact flatS | exact rowLens | (intro; skip) | apply obsN | apply obsC | apply obA | apply obM | apply obB | apply svA | apply tupA | apply lcA | apply lcS | apply svC | apply liC | apply lbC | apply lsC | apply vIc | apply vBc | apply vSc | apply vLc | apply mapC | apply hdI | apply Ec_heldIntSLa | apply Sc_heldIntSLa | apply EW0c_heldIntSLa | apply EW1c_heldIntSLa)
  all_goals (try simp only [std, stdM] at *)
  all_goals (try (first | with_reducible rfl | omega | assumption | exact dT ‹_› | exact dF ‹_› | ((first | refine rowGet ?_ | refine getC ?_ rfl); (first | omega | (simp only [std, stdM]; omega) | grind)) | (refine set_row ?_; (simp only [List.length_map, List.length_set, mkTo_len]; omega)) | (refine mkToRow ?_; (first | omega | (simp only [std, stdM]; omega) | grind)) | (refine mkTo_row ?_ rfl; (first | omega | (simp only [std, stdM]; omega) | grind)) | (refine mkTo_step ?_ ?_; (first | omega | (simp only [std, stdM]; omega) | grind); (first | grind [snocI, snocS, rowSnoc])) | (show (_ : St) = _; rfl) | grind [snocI, snocS, rowSnoc]))
abbrev P_c_heldSyntaxS (x : Syntax) (n : Int) : Prop := CallOK Tryz.prog 103 [] [ll (x.items.map syntaxC), li n] [] (.sv (li (n + sumBy cY x.items)))
def Tc_heldSyntaxS_sLa (x : Syntax) (n : Int) (x0 : SV) (x1 : SV) : St := St.mk (regsOf 59 [(0, AV.sv (ll (List.map syntaxC (Syntax.items x)))), (1, AV.sv x1), (5, AV.sv x0)]) [] 0
def Lc_heldSyntaxS_sLa (x : Syntax) (n : Int) (k : Nat) : St := Tc_heldSyntaxS_sLa x n (li (k : Int)) (li (n + (↑(sumBy cY (List.take k (Syntax.items x))) : Int))) 
abbrev Ic_heldSyntaxS_sLa (x : Syntax) (n : Int) : Nat -> St -> Prop := Head (Lc_heldSyntaxS_sLa x n) (fun k => k <= List.length (Syntax.items x) /\ List.length (Syntax.items x) <=
 9223372036854775807) fun k => List.length (Syntax.items x) - k 
def W0c_heldSyntaxS_sLa (x : Syntax) (n : Int) (x0 : SV) : St := St.mk (regsOf 59 [(1, AV.sv x0)]) [] 0 
def W1c_heldSyntaxS_sLa (x : Syntax) (n : Int) (x0 : SV) : St := St.mk (regsOf 59 [(4, AV.sv x0)]) [] 0 
def Yc_heldSyntaxS_sLa (x : Syntax) (n : Int) : List (Prop × AEx × St) := [(True, AEx.exit 0, W0c_heldSyntaxS_sLa x n (li (n + (↑(sumBy cY (Syntax.items x)) : Int)))), (False,
 AEx.ret, W1c_heldSyntaxS_sLa x n (li (-1 : Int)))]

theorem Ec_heldSyntaxS_sLa {x : Syntax} {n : Int} {k : Nat} {x0 : SV} {x1 : SV} (h0 : x0 = (li (k : Int))) (h1 : x1 = (li (n + (↑(sumBy cY (List.take k (Syntax.items x))) :
 Int)))) : Tc_heldSyntaxS_sLa x n x0 x1 = Lc_heldSyntaxS_sLa x n k := by
  rw [h0, h1]
  rfl
theorem EW0c_heldSyntaxS_sLa {x : Syntax} {n : Int} {x0 y0 : SV} (h0 : x0 = y0) : W0c_heldSyntaxS_sLa x n x0 = W0c_heldSyntaxS_sLa x n y0 := by rw [h0]
theorem EW1c_heldSyntaxS_sLa {x : Syntax} {n : Int} {x0 y0 : SV} (h0 : x0 = y0) : W1c_heldSyntaxS_sLa x n x0 = W1c_heldSyntaxS_sLa x n y0 := by rw [h0]
abbrev a1__heldSyntaxS_sLa (x : Syntax) (k : Nat) := (↑(sumBy cY (List.take k (Syntax.items x))) : Int)
abbrev a2__heldSyntaxS_sLa (x : Syntax) (k : Nat) := (0 <= (k : Int) /\ (List.map syntaxC (Syntax.items x))[Int.toNat (k : Int)]? = some (syntaxF (List.getD (Syntax.items x) k
 default)))
abbrev a3__heldSyntaxS_sLa (x : Syntax) (k : Nat) := (↑(List.length (Syntax.scopes (List.getD (Syntax.items x) k default))) : Int)
abbrev a4__heldSyntaxS_sLa (x : Syntax) (n : Int) (k : Nat) := (li (n + (a1__heldSyntaxS_sLa x k) + 1 + 1 + 1 + (a3__heldSyntaxS_sLa x k) + (↑(sumBy cY (Syntax.items (List.getD
 (Syntax.items x) k default))) : Int)))
theorem run_c_heldSyntaxS_sLa (x : Syntax) (n : Int) (k : Nat) : aexec Tryz.prog (loopAt Tryz.f103 0) (Lc_heldSyntaxS_sLa x n k) [.br [.cells (syntaxF (List.getD
 (Syntax.items x) k default)), .br [.ghost (.sel [] [4]), .out 1] [.cells (syntaxF (List.getD (Syntax.items x) k default)), .br [.ghost (.sel [] [4]),
 .out 1] [.draw [], .cells (syntaxF (List.getD (Syntax.items x) k default)), .call [Mode.rd] [] (AV.sv (ls (mText (n + (a1__heldSyntaxS_sLa x k) + 1 + 1)))), .br
 [.ghost (.sel [] [4]), .out 1] [.cells (syntaxF (List.getD (Syntax.items x) k default)), .call [Mode.rd, Mode.rd] [] (AV.sv (li (n + (a1__heldSyntaxS_sLa x k) + 1
 + 1 + 1 + (a3__heldSyntaxS_sLa x k)))), .br [.ghost (.sel [] [4]), .out 1] [.cells (syntaxF (List.getD (Syntax.items x) k default)), .call [Mode.rd, Mode.rd]
 [] (AV.sv (a4__heldSyntaxS_sLa x n k)), .br [.ghost (.sel [] [4]), .out 1] [.ghost (.sel [] [0, 1, 5]), .goto (List.length (Syntax.items x) - (k + 1))
 (Lc_heldSyntaxS_sLa x n (k + 1))]]]]]] [.ghost (.sel [] [1]), .out 0]] (loopK (Ic_heldSyntaxS_sLa x n) (Yc_heldSyntaxS_sLa x n) (List.length (Syntax.items x) - k)) =
 (List.length (List.map syntaxC (Syntax.items x)) <= 9223372036854775807 -> (decide ((k : Int) < (↑(List.length (List.map syntaxC (Syntax.items x))) : Int)) = true ->
 (a2__heldSyntaxS_sLa x k) /\ (decide (Syntax.kind (List.getD (Syntax.items x) k default) ≠ n + (a1__heldSyntaxS_sLa x k)) = true -> False /\ W1c_heldSyntaxS_sLa x n (li (-1 : Int)) =
 W1c_heldSyntaxS_sLa x n (li (-1 : Int))) /\ (decide (Syntax.kind (List.getD (Syntax.items x) k default) ≠ n + (a1__heldSyntaxS_sLa x k)) = false -> rng .i64 (n +
 (a1__heldSyntaxS_sLa x k) + 1) /\ (a2__heldSyntaxS_sLa x k) /\ (decide (Syntax.number (List.getD (Syntax.items x) k default) ≠ n + (a1__heldSyntaxS_sLa x k) + 1) = true -> False /\
 W1c_heldSyntaxS_sLa x n (li (-1 : Int)) = W1c_heldSyntaxS_sLa x n (li (-1 : Int))) /\ (decide (Syntax.number (List.getD (Syntax.items x) k default) ≠ n + (a1__heldSyntaxS_sLa x k)
 + 1) = false -> rng .i64 (n + (a1__heldSyntaxS_sLa x k) + 1 + 1) /\ (a2__heldSyntaxS_sLa x k) /\ P_c_markText (n + (a1__heldSyntaxS_sLa x k) + 1 + 1) /\ (decide (Array.toList
 (ByteArray.data (Syntax.text (List.getD (Syntax.items x) k default))) ≠ Array.toList (ByteArray.data (mText (n + (a1__heldSyntaxS_sLa x k) + 1 + 1)))) = true -> False /\
 W1c_heldSyntaxS_sLa x n (li (-1 : Int)) = W1c_heldSyntaxS_sLa x n (li (-1 : Int))) /\ (decide (Array.toList (ByteArray.data (Syntax.text (List.getD (Syntax.items x) k default))) ≠
 Array.toList (ByteArray.data (mText (n + (a1__heldSyntaxS_sLa x k) + 1 + 1)))) = false -> rng .i64 (n + (a1__heldSyntaxS_sLa x k) + 1 + 1 + 1) /\ (a2__heldSyntaxS_sLa x k) /\
 P_c_heldIntS (Syntax.scopes (List.getD (Syntax.items x) k default)) (n + (a1__heldSyntaxS_sLa x k) + 1 + 1 + 1) /\ (decide (n + (a1__heldSyntaxS_sLa x k) + 1 + 1 + 1 +
 (a3__heldSyntaxS_sLa x k) < 0) = true -> False /\ W1c_heldSyntaxS_sLa x n (li (-1 : Int)) = W1c_heldSyntaxS_sLa x n (li (-1 : Int))) /\ (decide (n + (a1__heldSyntaxS_sLa x k) + 1 + 1
 + 1 + (a3__heldSyntaxS_sLa x k) < 0) = false -> (a2__heldSyntaxS_sLa x k) /\ CallOK Tryz.prog 103 [] [ll (List.map syntaxC (Syntax.items (List.getD (Syntax.items x) k default))), li
 (n + (a1__heldSyntaxS_sLa x k) + 1 + 1 + 1 + (a3__heldSyntaxS_sLa x k))] [] (AV.sv (a4__heldSyntaxS_sLa x n k)) /\ (decide (n + (a1__heldSyntaxS_sLa x k) + 1 + 1 + 1 +
 (a3__heldSyntaxS_sLa x k) + (↑(sumBy cY (Syntax.items (List.getD (Syntax.items x) k default))) : Int) < 0) = true -> False /\ W1c_heldSyntaxS_sLa x n (li (-1 : Int)) =
 W1c_heldSyntaxS_sLa x n (li (-1 : Int))) /\ (decide (n + (a1__heldSyntaxS_sLa x k) + 1 + 1 + 1 + (a3__heldSyntaxS_sLa x k) + (↑(sumBy cY (Syntax.items (List.getD (Syntax.items x) k
 default))) : Int) < 0) = false -> rng .i64 ((k : Int) + 1) /\ List.length (Syntax.items x) - (k + 1) < List.length (Syntax.items x) - k /\ Tc_heldSyntaxS_sLa x n (li ((↑k :
 Int) + 1)) (a4__heldSyntaxS_sLa x n k) = Lc_heldSyntaxS_sLa x n (k + 1) /\ Ic_heldSyntaxS_sLa x n (List.length (Syntax.items x) - (k + 1)) (Lc_heldSyntaxS_sLa x n (k + 1)))))))) /\
 (decide ((k : Int) < (↑(List.length (List.map syntaxC (Syntax.items x))) : Int)) = false -> True /\ W0c_heldSyntaxS_sLa x n (li (n + (a1__heldSyntaxS_sLa x k))) =
 W0c_heldSyntaxS_sLa x n (li (n + (↑(sumBy cY (Syntax.items x)) : Int))))) := by kernel_rfl
theorem Sc_heldSyntaxS_sLa (x : Syntax) (n : Int) (h0 : 0 <= n) (h : n + (↑(sumBy cY (Syntax.items x)) : Int) <= 2147483647) (hm : seqM mkY cY (Syntax.items x) n = Syntax.items x)
 (ih : ∀ (z : Syntax), z ∈ Syntax.items x -> ∀ (n : Int), 0 <= n -> n + (↑(sumBy cY (Syntax.items z)) : Int) <= 2147483647 -> seqM mkY cY (Syntax.items z) n = Syntax.items z ->
 P_c_heldSyntaxS z n)  : LoopSem Tryz.prog (loopAt Tryz.f103 0) (Ic_heldSyntaxS_sLa x n) (Yc_heldSyntaxS_sLa x n) := by
  refine LoopSem.ofHead wide fun k h => ⟨_, _, run_c_heldSyntaxS_sLa x n k, ?_⟩
  try delta a1__heldSyntaxS_sLa a2__heldSyntaxS_sLa a3__heldSyntaxS_sLa a4__heldSyntaxS_sLa
  have g0 := sumBy_takeLe cY x.items (k + 1)
  have g1 := fun hk : k < x.items.length => mkY_fix (seqM_get hm hk)
  with_reducible repeat' (first | apply And.intro | exact flatI | exact flatS | exact rowLens | exact ih | (intro; skip) | apply obsN | apply obsC | apply obA | apply obM | apply obB | apply svA | apply tupA | apply lcA | apply lcS | apply svC | apply liC | apply lbC | apply lsC | apply vIc | apply vBc | apply vSc | apply vLc | apply mapC | apply hdI | apply Ec_heldSyntaxS_sLa | apply EW0c_heldSyntaxS_sLa | apply EW1c_heldSyntaxS_sLa | apply c_markText | apply c_heldIntS | apply ih)
  all_goals (try simp only [std, stdM] at *)
  all_goals (try (first | with_reducible apply c_markText | with_reducible apply c_heldIntS | with_reducible apply ih | (simp only [<- List.map_append]; first | with_reducible apply c_markText | with_reducible apply c_heldIntS | with_reducible apply ih)))
  all_goals (try (first | with_reducible rfl | omega | assumption | exact dT ‹_› | exact dF ‹_› | ((first | refine rowGet ?_ | refine getC ?_ rfl); (first | omega | (simp only [std, stdM]; omega) | grind)) | (refine set_row ?_; (simp only [List.length_map, List.length_set, mkTo_len]; omega)) | (refine mkToRow ?_; (first | omega | (simp only [std, stdM]; omega) | grind)) | (refine mkTo_row ?_ rfl; (first | omega | (simp only [std, stdM]; omega) | grind)) | (refine mkTo_step ?_ ?_; (first | omega | (simp only [std, stdM]; omega) | grind); (first | grind [sumBy_step, getD_mem', cY_eq, snocI, snocS, rowSnoc])) | (show (_ : St) = _; rfl) | grind [sumBy_step, getD_mem', cY_eq, snocI, snocS, rowSnoc]))
theorem run_c_heldSyntaxS_s (x : Syntax) (n : Int) : aexec Tryz.prog (Tryz.f103.body.getD .skip) (entry [] [ll (List.map syntaxC (Syntax.items x)), li n] 59)
 [.ghost (.sel [] [0, 1, 5]), .loop (List.length (Syntax.items x) - 0) (Lc_heldSyntaxS_sLa x n 0) (Ic_heldSyntaxS_sLa x n) [(True, AEx.exit 0, W0c_heldSyntaxS_sLa x n
 (li (n + (↑(sumBy cY (Syntax.items x)) : Int))), [.fin []]), (False, AEx.ret, W1c_heldSyntaxS_sLa x n (li (-1 : Int)), [.fin []])]] (finK Tryz.prog [ResultVar.tmp 4] []
 (AV.sv (li (n + (↑(sumBy cY (Syntax.items x)) : Int))))) = (Tc_heldSyntaxS_sLa x n (li 0) (li n) = Lc_heldSyntaxS_sLa x n 0 /\ Ic_heldSyntaxS_sLa x n (List.length (Syntax.items x)
 - 0) (Lc_heldSyntaxS_sLa x n 0) /\ LoopSem Tryz.prog (loopAt Tryz.f103 0) (Ic_heldSyntaxS_sLa x n) (Yc_heldSyntaxS_sLa x n) /\ (True -> ObsEq [] [] /\ AV.sv (li (n + (↑(sumBy cY
 (Syntax.items x)) : Int))) = AV.sv (li (n + (↑(sumBy cY (Syntax.items x)) : Int)))) /\ (False -> ObsEq [] [] /\ AV.sv (li (-1 : Int)) = AV.sv (li (n + (↑(sumBy cY (Syntax.items x)) :
 Int)))) /\ True) := by kernel_rfl
theorem c_heldSyntaxS_s (x : Syntax) (n : Int) (h0 : 0 <= n) (h : n + sumBy cY x.items <= 2147483647) (hm : seqM mkY cY x.items n = x.items) (ih : ∀ z ∈ x.items, ∀ (n : Int) (h0 : 0
 <= n) (h : n + sumBy cY z.items <= 2147483647) (hm : seqM mkY cY z.items n = z.items), P_c_heldSyntaxS z n)  : P_c_heldSyntaxS x n := by
  refine CallOK.ofRun wide (run_c_heldSyntaxS_s x n) Tryz.call103 Tryz.func103 rfl rfl rfl ?_
  have gl := cY_len x.items
  with_reducible repeat' (first | apply And.intro | exact flatI | exact flatS | exact rowLens | exact ih | (intro; skip) | apply obsN | apply obsC | apply obA | apply obM | apply obB | apply svA | apply tupA | apply lcA | apply lcS | apply svC | apply liC | apply lbC | apply lsC | apply vIc | apply vBc | apply vSc | apply vLc | apply mapC | apply hdI | apply Ec_heldSyntaxS_sLa | apply Sc_heldSyntaxS_sLa | apply EW0c_heldSyntaxS_sLa | apply EW1c_heldSyntaxS_sLa | apply c_markText | apply c_heldIntS)
  all_goals (try simp only [std, stdM] at *)
  all_goals (try (first | with_reducible apply c_markText | with_reducible apply c_heldIntS | with_reducible apply ih | (simp only [<- List.map_append]; first | with_reducible apply c_markText | with_reducible apply c_heldIntS | with_reducible apply ih)))
  all_goals (try (first | with_reducible rfl | omega | assumption | exact dT ‹_› | exact dF ‹_› | ((first | refine rowGet ?_ | refine getC ?_ rfl); (first | omega | (simp only [std, stdM]; omega) | grind)) | (refine set_row ?_; (simp only [List.length_map, List.length_set, mkTo_len]; omega)) | (refine mkToRow ?_; (first | omega | (simp only [std, stdM]; omega) | grind)) | (refine mkTo_row ?_ rfl; (first | omega | (simp only [std, stdM]; omega) | grind)) | (refine mkTo_step ?_ ?_; (first | omega | (simp only [std, stdM]; omega) | grind); (first | grind [mkTo_all, snocI, snocS, rowSnoc])) | (show (_ : St) = _; rfl) | grind [mkTo_all, snocI, snocS, rowSnoc]))
theorem c_heldSyntaxS (x : Syntax) : ∀ (n : Int) (h0 : 0 <= n) (h : n + sumBy cY x.items <= 2147483647) (hm : seqM mkY cY x.items n = x.items), P_c_heldSyntaxS x n := Syntax.ind (P := fun x => ∀ (n : Int) (h0 : 0 <= n) (h : n + sumBy cY x.items <= 2147483647) (hm : seqM mkY cY x.items n = x.items), P_c_heldSyntaxS x n) (fun x ih n h0 h hm => c_heldSyntaxS_s x n h0 h hm ih) x
theorem c_heldSyntaxSL (L : List Syntax) (n : Int) (h0 : 0 <= n) (h : n + sumBy cY L <= 2147483647) (hm : seqM mkY cY L n = L) : P_c_heldSyntaxS { (default : Syntax) with items := L } n := c_heldSyntaxS { (default : Syntax) with items := L } n h0 h hm
abbrev P_c_heldBindingS (L : List Binding) (n : Int) : Prop := CallOK Tryz.prog 111 [] [ll (L.map bindingC), li n] [] (.sv (li (n + sumBy cB L)))
def Tc_heldBindingSLa (L : List Binding) (n : Int) (x0 : SV) (x1 : SV) : St := St.mk (regsOf 50 [(0, AV.sv (ll (List.map bindingC L))), (1, AV.sv x1), (5, AV.sv x0)]) [] 0 
def Lc_heldBindingSLa (L : List Binding) (n : Int) (k : Nat) : St := Tc_heldBindingSLa L n (li (k : Int)) (li (n + (↑(sumBy cB (List.take k L)) : Int))) 
abbrev Ic_heldBindingSLa (L : List Binding) (n : Int) : Nat -> St -> Prop := Head (Lc_heldBindingSLa L n) (fun k => k <= List.length L /\ List.length L <= 9223372036854775807) fun k =>
 List.length L - k 
def W0c_heldBindingSLa (L : List Binding) (n : Int) (x0 : SV) : St := St.mk (regsOf 50 [(1, AV.sv x0)]) [] 0 
def W1c_heldBindingSLa (L : List Binding) (n : Int) (x0 : SV) : St := St.mk (regsOf 50 [(4, AV.sv x0)]) [] 0 
def Yc_heldBindingSLa (L : List Binding) (n : Int) : List (Prop × AEx × St) := [(True, AEx.exit 0, W0c_heldBindingSLa L n (li (n + (↑(sumBy cB L) : Int)))), (False, AEx.ret,
 W1c_heldBindingSLa L n (li (-1 : Int)))]

theorem Ec_heldBindingSLa {L : List Binding} {n : Int} {k : Nat} {x0 : SV} {x1 : SV} (h0 : x0 = (li (k : Int))) (h1 : x1 = (li (n + (↑(sumBy cB (List.take k L)) : Int)))) :
 Tc_heldBindingSLa L n x0 x1 = Lc_heldBindingSLa L n k := by
  rw [h0, h1]
  rfl
theorem EW0c_heldBindingSLa {L : List Binding} {n : Int} {x0 y0 : SV} (h0 : x0 = y0) : W0c_heldBindingSLa L n x0 = W0c_heldBindingSLa L n y0 := by rw [h0]
theorem EW1c_heldBindingSLa {L : List Binding} {n : Int} {x0 y0 : SV} (h0 : x0 = y0) : W1c_heldBindingSLa L n x0 = W1c_heldBindingSLa L n y0 := by rw [h0]
abbrev a1__heldBindingSLa (L : List Binding) (k : Nat) := (↑(List.length (Binding.scopes (List.getD L k default))) : Int)
abbrev a2__heldBindingSLa (L : List Binding) (k : Nat) := (0 <= (k : Int) /\ (List.map bindingC L)[Int.toNat (k : Int)]? = some (bindingF (List.getD L k default)))
theorem run_c_heldBindingSLa (L : List Binding) (n : Int) (k : Nat) : aexec Tryz.prog (loopAt Tryz.f111 0) (Lc_heldBindingSLa L n k) [.br [.draw [], .cells (bindingF
 (List.getD L k default)), .call [Mode.rd] [] (AV.sv (ls (mText (n + (↑(sumBy cB (List.take k L)) : Int))))), .br [.ghost (.sel [] [4]), .out 1] [.cells
 (bindingF (List.getD L k default)), .call [Mode.rd, Mode.rd] [] (AV.sv (li (n + (↑(sumBy cB (List.take k L)) : Int) + 1 + (a1__heldBindingSLa L k)))), .br [.ghost
 (.sel [] [4]), .out 1] [.cells (bindingF (List.getD L k default)), .br [.ghost (.sel [] [4]), .out 1] [.cells (bindingF (List.getD L k default)),
 .br [.ghost (.sel [] [4]), .out 1] [.ghost (.sel [] [0, 1, 5]), .goto (List.length L - (k + 1)) (Lc_heldBindingSLa L n (k + 1))]]]]] [.ghost (.sel
 [] [1]), .out 0]] (loopK (Ic_heldBindingSLa L n) (Yc_heldBindingSLa L n) (List.length L - k)) = (List.length (List.map bindingC L) <= 9223372036854775807 -> (decide ((k : Int) <
 (↑(List.length (List.map bindingC L)) : Int)) = true -> (a2__heldBindingSLa L k) /\ P_c_markText (n + (↑(sumBy cB (List.take k L)) : Int)) /\ (decide (Array.toList (ByteArray.data
 (Binding.text (List.getD L k default))) ≠ Array.toList (ByteArray.data (mText (n + (↑(sumBy cB (List.take k L)) : Int))))) = true -> False /\ W1c_heldBindingSLa L n (li (-1 : Int))
 = W1c_heldBindingSLa L n (li (-1 : Int))) /\ (decide (Array.toList (ByteArray.data (Binding.text (List.getD L k default))) ≠ Array.toList (ByteArray.data (mText (n + (↑(sumBy cB
 (List.take k L)) : Int))))) = false -> rng .i64 (n + (↑(sumBy cB (List.take k L)) : Int) + 1) /\ (a2__heldBindingSLa L k) /\ P_c_heldIntS (Binding.scopes (List.getD L k
 default)) (n + (↑(sumBy cB (List.take k L)) : Int) + 1) /\ (decide (n + (↑(sumBy cB (List.take k L)) : Int) + 1 + (a1__heldBindingSLa L k) < 0) = true -> False /\ W1c_heldBindingSLa
 L n (li (-1 : Int)) = W1c_heldBindingSLa L n (li (-1 : Int))) /\ (decide (n + (↑(sumBy cB (List.take k L)) : Int) + 1 + (a1__heldBindingSLa L k) < 0) = false -> (a2__heldBindingSLa
 L k) /\ (decide (Binding.kind (List.getD L k default) ≠ n + (↑(sumBy cB (List.take k L)) : Int) + 1 + (a1__heldBindingSLa L k)) = true -> False /\ W1c_heldBindingSLa L n (li (-1 :
 Int)) = W1c_heldBindingSLa L n (li (-1 : Int))) /\ (decide (Binding.kind (List.getD L k default) ≠ n + (↑(sumBy cB (List.take k L)) : Int) + 1 + (a1__heldBindingSLa L k)) = false ->
 rng .i64 (n + (↑(sumBy cB (List.take k L)) : Int) + 1 + (a1__heldBindingSLa L k) + 1) /\ (a2__heldBindingSLa L k) /\ (decide (Binding.number (List.getD L k default) ≠ n +
 (↑(sumBy cB (List.take k L)) : Int) + 1 + (a1__heldBindingSLa L k) + 1) = true -> False /\ W1c_heldBindingSLa L n (li (-1 : Int)) = W1c_heldBindingSLa L n (li (-1 : Int))) /\ (decide
 (Binding.number (List.getD L k default) ≠ n + (↑(sumBy cB (List.take k L)) : Int) + 1 + (a1__heldBindingSLa L k) + 1) = false -> rng .i64 (n + (↑(sumBy cB (List.take k L)) :
 Int) + 1 + (a1__heldBindingSLa L k) + 1 + 1) /\ rng .i64 ((k : Int) + 1) /\ List.length L - (k + 1) < List.length L - k /\ Tc_heldBindingSLa L n (li ((k : Int) + 1)) (li (n
 + (↑(sumBy cB (List.take k L)) : Int) + 1 + (a1__heldBindingSLa L k) + 1 + 1)) = Lc_heldBindingSLa L n (k + 1) /\ Ic_heldBindingSLa L n (List.length L - (k + 1)) (Lc_heldBindingSLa
 L n (k + 1))))))) /\ (decide ((k : Int) < (↑(List.length (List.map bindingC L)) : Int)) = false -> True /\ W0c_heldBindingSLa L n (li (n + (↑(sumBy cB (List.take k L)) : Int))) =
 W0c_heldBindingSLa L n (li (n + (↑(sumBy cB L) : Int))))) := by kernel_rfl
theorem Sc_heldBindingSLa (L : List Binding) (n : Int) (h0 : 0 <= n) (h : n + (↑(sumBy cB L) : Int) <= 2147483647) (hm : seqM mkB cB L n = L)  : LoopSem Tryz.prog (loopAt Tryz.f111
 0) (Ic_heldBindingSLa L n) (Yc_heldBindingSLa L n) := by
  refine LoopSem.ofHead wide fun k h => ⟨_, _, run_c_heldBindingSLa L n k, ?_⟩
  try delta a1__heldBindingSLa a2__heldBindingSLa
  have g0 := sumBy_takeLe cB L (k + 1)
  have g1 := fun hk : k < L.length => mkB_fix (seqM_get hm hk)
  with_reducible repeat' (first | apply And.intro | exact flatI | exact flatS | exact rowLens | (intro; skip) | apply obsN | apply obsC | apply obA | apply obM | apply obB | apply svA | apply tupA | apply lcA | apply lcS | apply svC | apply liC | apply lbC | apply lsC | apply vIc | apply vBc | apply vSc | apply vLc | apply mapC | apply hdI | apply Ec_heldBindingSLa | apply EW0c_heldBindingSLa | apply EW1c_heldBindingSLa | apply c_markText | apply c_heldIntS)
  all_goals (try simp only [std, stdM] at *)
  all_goals (try (first | with_reducible apply c_markText | with_reducible apply c_heldIntS | (simp only [<- List.map_append]; first | with_reducible apply c_markText | with_reducible apply c_heldIntS)))
  all_goals (try (first | with_reducible rfl | omega | assumption | exact dT ‹_› | exact dF ‹_› | ((first | refine rowGet ?_ | refine getC ?_ rfl); (first | omega | (simp only [std, stdM]; omega) | grind)) | (refine set_row ?_; (simp only [List.length_map, List.length_set, mkTo_len]; omega)) | (refine mkToRow ?_; (first | omega | (simp only [std, stdM]; omega) | grind)) | (refine mkTo_row ?_ rfl; (first | omega | (simp only [std, stdM]; omega) | grind)) | (refine mkTo_step ?_ ?_; (first | omega | (simp only [std, stdM]; omega) | grind); (first | grind [sumBy_step, getD_mem', cB_eq, snocI, snocS, rowSnoc])) | (show (_ : St) = _; rfl) | grind [sumBy_step, getD_mem', cB_eq, snocI, snocS, rowSnoc]))
theorem run_c_heldBindingS (L : List Binding) (n : Int) : aexec Tryz.prog (Tryz.f111.body.getD .skip) (entry [] [ll (List.map bindingC L), li n] 50) [.ghost
 (.sel [] [0, 1, 5]), .loop (List.length L - 0) (Lc_heldBindingSLa L n 0) (Ic_heldBindingSLa L n) [(True, AEx.exit 0, W0c_heldBindingSLa L n (li (n + (↑(sumBy cB L) :
 Int))), [.fin []]), (False, AEx.ret, W1c_heldBindingSLa L n (li (-1 : Int)), [.fin []])]] (finK Tryz.prog [ResultVar.tmp 4] [] (AV.sv (li (n + (↑(sumBy cB L) : Int))))) =
 (Tc_heldBindingSLa L n (li 0) (li n) = Lc_heldBindingSLa L n 0 /\ Ic_heldBindingSLa L n (List.length L - 0) (Lc_heldBindingSLa L n 0) /\ LoopSem Tryz.prog (loopAt Tryz.f111 0)
 (Ic_heldBindingSLa L n) (Yc_heldBindingSLa L n) /\ (True -> ObsEq [] [] /\ AV.sv (li (n + (↑(sumBy cB L) : Int))) = AV.sv (li (n + (↑(sumBy cB L) : Int)))) /\ (False -> ObsEq [] [] /\
 AV.sv (li (-1 : Int)) = AV.sv (li (n + (↑(sumBy cB L) : Int)))) /\ True) := by kernel_rfl
theorem c_heldBindingS (L : List Binding) (n : Int) (h0 : 0 <= n) (h : n + sumBy cB L <= 2147483647) (hm : seqM mkB cB L n = L)  : P_c_heldBindingS L n := by
  refine CallOK.ofRun wide (run_c_heldBindingS L n) Tryz.call111 Tryz.func111 rfl rfl rfl ?_
  have gl := cB_len L
  with_reducible repeat' (first | apply And.intro | exact flatI | exact flatS | exact rowLens | (intro; skip) | apply obsN | apply obsC | apply obA | apply obM | apply obB | apply svA | apply tupA | apply lcA | apply lcS | apply svC | apply liC | apply lbC | apply lsC | apply vIc | apply vBc | apply vSc | apply vLc | apply mapC | apply hdI | apply Ec_heldBindingSLa | apply Sc_heldBindingSLa | apply EW0c_heldBindingSLa | apply EW1c_heldBindingSLa | apply c_markText | apply c_heldIntS)
  all_goals (try simp only [std, stdM] at *)
  all_goals (try (first | with_reducible apply c_markText | with_reducible apply c_heldIntS | (simp only [<- List.map_append]; first | with_reducible apply c_markText | with_reducible apply c_heldIntS)))
  all_goals (try (first | with_reducible rfl | omega | assumption | exact dT ‹_› | exact dF ‹_› | ((first | refine rowGet ?_ | refine getC ?_ rfl); (first | omega | (simp only [std, stdM]; omega) | grind)) | (refine set_row ?_; (simp only [List.length_map, List.length_set, mkTo_len]; omega)) | (refine mkToRow ?_; (first | omega | (simp only [std, stdM]; omega) | grind)) | (refine mkTo_row ?_ rfl; (first | omega | (simp only [std, stdM]; omega) | grind)) | (refine mkTo_step ?_ ?_; (first | omega | (simp only [std, stdM]; omega) | grind); (first | grind [mkTo_all, snocI, snocS, rowSnoc])) | (show (_ : St) = _; rfl) | grind [mkTo_all, snocI, snocS, rowSnoc]))
abbrev P_c_heldRulesS (L : List Rules) (n : Int) : Prop := CallOK Tryz.prog 112 [] [ll (L.map rulesC), li n] [] (.sv (li (n + sumBy cR L)))
def Tc_heldRulesSLa (L : List Rules) (n : Int) (x0 : SV) (x1 : SV) : St := St.mk (regsOf 40 [(0, AV.sv (ll (List.map rulesC L))), (1, AV.sv x1), (5, AV.sv x0)]) [] 0 
def Lc_heldRulesSLa (L : List Rules) (n : Int) (k : Nat) : St := Tc_heldRulesSLa L n (li (k : Int)) (li (n + (↑(sumBy cR (List.take k L)) : Int))) 
abbrev Ic_heldRulesSLa (L : List Rules) (n : Int) : Nat -> St -> Prop := Head (Lc_heldRulesSLa L n) (fun k => k <= List.length L /\ List.length L <= 9223372036854775807) fun k =>
 List.length L - k 
def W0c_heldRulesSLa (L : List Rules) (n : Int) (x0 : SV) : St := St.mk (regsOf 40 [(1, AV.sv x0)]) [] 0 
def W1c_heldRulesSLa (L : List Rules) (n : Int) (x0 : SV) : St := St.mk (regsOf 40 [(4, AV.sv x0)]) [] 0 
def Yc_heldRulesSLa (L : List Rules) (n : Int) : List (Prop × AEx × St) := [(True, AEx.exit 0, W0c_heldRulesSLa L n (li (n + (↑(sumBy cR L) : Int)))), (False, AEx.ret,
 W1c_heldRulesSLa L n (li (-1 : Int)))]

theorem Ec_heldRulesSLa {L : List Rules} {n : Int} {k : Nat} {x0 : SV} {x1 : SV} (h0 : x0 = (li (k : Int))) (h1 : x1 = (li (n + (↑(sumBy cR (List.take k L)) : Int)))) :
 Tc_heldRulesSLa L n x0 x1 = Lc_heldRulesSLa L n k := by
  rw [h0, h1]
  rfl
theorem EW0c_heldRulesSLa {L : List Rules} {n : Int} {x0 y0 : SV} (h0 : x0 = y0) : W0c_heldRulesSLa L n x0 = W0c_heldRulesSLa L n y0 := by rw [h0]
theorem EW1c_heldRulesSLa {L : List Rules} {n : Int} {x0 y0 : SV} (h0 : x0 = y0) : W1c_heldRulesSLa L n x0 = W1c_heldRulesSLa L n y0 := by rw [h0]
abbrev a1__heldRulesSLa (L : List Rules) (k : Nat) := (↑(sumBy cY (Rules.literals (List.getD L k default))) : Int)
abbrev a2__heldRulesSLa (L : List Rules) (k : Nat) := (↑(sumBy cY (Rules.patterns (List.getD L k default))) : Int)
abbrev a3__heldRulesSLa (L : List Rules) (n : Int) (k : Nat) := (li (n + (↑(sumBy cR (List.take k L)) : Int) + (a1__heldRulesSLa L k) + (a2__heldRulesSLa L k) + (↑(sumBy cY
 (Rules.templates (List.getD L k default))) : Int)))
theorem run_c_heldRulesSLa (L : List Rules) (n : Int) (k : Nat) : aexec Tryz.prog (loopAt Tryz.f112 0) (Lc_heldRulesSLa L n k) [.br [.cells (rulesF (List.getD L k default)),
 .call [Mode.rd, Mode.rd] [] (AV.sv (li (n + (↑(sumBy cR (List.take k L)) : Int) + (a1__heldRulesSLa L k)))), .br [.ghost (.sel [] [4]), .out 1] [.cells (rulesF
 (List.getD L k default)), .call [Mode.rd, Mode.rd] [] (AV.sv (li (n + (↑(sumBy cR (List.take k L)) : Int) + (a1__heldRulesSLa L k) + (a2__heldRulesSLa L k)))), .br
 [.ghost (.sel [] [4]), .out 1] [.cells (rulesF (List.getD L k default)), .call [Mode.rd, Mode.rd] [] (AV.sv (a3__heldRulesSLa L n k)), .br [.ghost
 (.sel [] [4]), .out 1] [.ghost (.sel [] [0, 1, 5]), .goto (List.length L - (k + 1)) (Lc_heldRulesSLa L n (k + 1))]]]] [.ghost (.sel [] [1]), .out 0]]
 (loopK (Ic_heldRulesSLa L n) (Yc_heldRulesSLa L n) (List.length L - k)) = (List.length (List.map rulesC L) <= 9223372036854775807 -> (decide ((k : Int) < (↑(List.length (List.map
 rulesC L)) : Int)) = true -> (0 <= (k : Int) /\ (List.map rulesC L)[Int.toNat (k : Int)]? = some (rulesF (List.getD L k default))) /\ CallOK Tryz.prog 103 [] [ll (List.map syntaxC
 (Rules.literals (List.getD L k default))), li (n + (↑(sumBy cR (List.take k L)) : Int))] [] (AV.sv (li (n + (↑(sumBy cR (List.take k L)) : Int) + (a1__heldRulesSLa L k)))) /\
 (decide (n + (↑(sumBy cR (List.take k L)) : Int) + (a1__heldRulesSLa L k) < 0) = true -> False /\ W1c_heldRulesSLa L n (li (-1 : Int)) = W1c_heldRulesSLa L n (li (-1 : Int))) /\
 (decide (n + (↑(sumBy cR (List.take k L)) : Int) + (a1__heldRulesSLa L k) < 0) = false -> (0 <= (k : Int) /\ (List.map rulesC L)[Int.toNat (k : Int)]? = some (rulesF (List.getD L k
 default))) /\ CallOK Tryz.prog 103 [] [ll (List.map syntaxC (Rules.patterns (List.getD L k default))), li (n + (↑(sumBy cR (List.take k L)) : Int) + (a1__heldRulesSLa L k))] []
 (AV.sv (li (n + (↑(sumBy cR (List.take k L)) : Int) + (a1__heldRulesSLa L k) + (a2__heldRulesSLa L k)))) /\ (decide (n + (↑(sumBy cR (List.take k L)) : Int) + (a1__heldRulesSLa L
 k) + (a2__heldRulesSLa L k) < 0) = true -> False /\ W1c_heldRulesSLa L n (li (-1 : Int)) = W1c_heldRulesSLa L n (li (-1 : Int))) /\ (decide (n + (↑(sumBy cR (List.take k L)) : Int) +
 (a1__heldRulesSLa L k) + (a2__heldRulesSLa L k) < 0) = false -> (0 <= (k : Int) /\ (List.map rulesC L)[Int.toNat (k : Int)]? = some (rulesF (List.getD L k default))) /\ CallOK
 Tryz.prog 103 [] [ll (List.map syntaxC (Rules.templates (List.getD L k default))), li (n + (↑(sumBy cR (List.take k L)) : Int) + (a1__heldRulesSLa L k) + (a2__heldRulesSLa L k))]
 [] (AV.sv (a3__heldRulesSLa L n k)) /\ (decide (n + (↑(sumBy cR (List.take k L)) : Int) + (a1__heldRulesSLa L k) + (a2__heldRulesSLa L k) + (↑(sumBy cY (Rules.templates (List.getD
 L k default))) : Int) < 0) = true -> False /\ W1c_heldRulesSLa L n (li (-1 : Int)) = W1c_heldRulesSLa L n (li (-1 : Int))) /\ (decide (n + (↑(sumBy cR (List.take k L)) : Int) +
 (a1__heldRulesSLa L k) + (a2__heldRulesSLa L k) + (↑(sumBy cY (Rules.templates (List.getD L k default))) : Int) < 0) = false -> rng .i64 ((k : Int) + 1) /\ List.length L -
 (k + 1) < List.length L - k /\ Tc_heldRulesSLa L n (li ((k : Int) + 1)) (a3__heldRulesSLa L n k) = Lc_heldRulesSLa L n (k + 1) /\ Ic_heldRulesSLa L n (List.length L - (k + 1))
 (Lc_heldRulesSLa L n (k + 1)))))) /\ (decide ((k : Int) < (↑(List.length (List.map rulesC L)) : Int)) = false -> True /\ W0c_heldRulesSLa L n (li (n + (↑(sumBy cR (List.take k L)) :
 Int))) = W0c_heldRulesSLa L n (li (n + (↑(sumBy cR L) : Int))))) := by kernel_rfl
theorem Sc_heldRulesSLa (L : List Rules) (n : Int) (h0 : 0 <= n) (h : n + (↑(sumBy cR L) : Int) <= 2147483647) (h2 : List.length L <= 2147483647) (hm : seqM mkR cR L n = L)  : LoopSem
 Tryz.prog (loopAt Tryz.f112 0) (Ic_heldRulesSLa L n) (Yc_heldRulesSLa L n) := by
  refine LoopSem.ofHead wide fun k h => ⟨_, _, run_c_heldRulesSLa L n k, ?_⟩
  try delta a1__heldRulesSLa a2__heldRulesSLa a3__heldRulesSLa
  have g0 := sumBy_takeLe cR L (k + 1)
  have g1 := fun hk : k < L.length => mkR_fix (seqM_get hm hk)
  with_reducible repeat' (first | apply And.intro | exact flatI | exact flatS | exact rowLens | (intro; skip) | apply obsN | apply obsC | apply obA | apply obM | apply obB | apply svA | apply tupA | apply lcA | apply lcS | apply svC | apply liC | apply lbC | apply lsC | apply vIc | apply vBc | apply vSc | apply vLc | apply mapC | apply hdI | apply Ec_heldRulesSLa | apply EW0c_heldRulesSLa | apply EW1c_heldRulesSLa | apply c_heldSyntaxS | apply c_heldSyntaxSL)
  all_goals (try simp only [std, stdM] at *)
  all_goals (try (first | with_reducible apply c_heldSyntaxS | with_reducible apply c_heldSyntaxSL | (simp only [<- List.map_append]; first | with_reducible apply c_heldSyntaxS | with_reducible apply c_heldSyntaxSL)))
  all_goals (try (first | with_reducible rfl | omega | assumption | exact dT ‹_› | exact dF ‹_› | ((first | refine rowGet ?_ | refine getC ?_ rfl); (first | omega | (simp only [std, stdM]; omega) | grind)) | (refine set_row ?_; (simp only [List.length_map, List.length_set, mkTo_len]; omega)) | (refine mkToRow ?_; (first | omega | (simp only [std, stdM]; omega) | grind)) | (refine mkTo_row ?_ rfl; (first | omega | (simp only [std, stdM]; omega) | grind)) | (refine mkTo_step ?_ ?_; (first | omega | (simp only [std, stdM]; omega) | grind); (first | grind [sumBy_step, getD_mem', cR_eq, snocI, snocS, rowSnoc])) | (show (_ : St) = _; rfl) | grind [sumBy_step, getD_mem', cR_eq, snocI, snocS, rowSnoc]))
theorem run_c_heldRulesS (L : List Rules) (n : Int) : aexec Tryz.prog (Tryz.f112.body.getD .skip) (entry [] [ll (List.map rulesC L), li n] 40) [.ghost
 (.sel [] [0, 1, 5]), .loop (List.length L - 0) (Lc_heldRulesSLa L n 0) (Ic_heldRulesSLa L n) [(True, AEx.exit 0, W0c_heldRulesSLa L n (li (n + (↑(sumBy cR L) : Int))),
 [.fin []]), (False, AEx.ret, W1c_heldRulesSLa L n (li (-1 : Int)), [.fin []])]] (finK Tryz.prog [ResultVar.tmp 4] [] (AV.sv (li (n + (↑(sumBy cR L) : Int))))) =
 (Tc_heldRulesSLa L n (li 0) (li n) = Lc_heldRulesSLa L n 0 /\ Ic_heldRulesSLa L n (List.length L - 0) (Lc_heldRulesSLa L n 0) /\ LoopSem Tryz.prog (loopAt Tryz.f112 0)
 (Ic_heldRulesSLa L n) (Yc_heldRulesSLa L n) /\ (True -> ObsEq [] [] /\ AV.sv (li (n + (↑(sumBy cR L) : Int))) = AV.sv (li (n + (↑(sumBy cR L) : Int)))) /\ (False -> ObsEq [] [] /\ AV.sv
 (li (-1 : Int)) = AV.sv (li (n + (↑(sumBy cR L) : Int)))) /\ True) := by kernel_rfl
theorem c_heldRulesS (L : List Rules) (n : Int) (h0 : 0 <= n) (h : n + sumBy cR L <= 2147483647) (h2 : L.length <= 2147483647) (hm : seqM mkR cR L n = L)  : P_c_heldRulesS L n := by
  refine CallOK.ofRun wide (run_c_heldRulesS L n) Tryz.call112 Tryz.func112 rfl rfl rfl ?_
  with_reducible repeat' (first | apply And.intro | exact flatI | exact flatS | exact rowLens | (intro; skip) | apply obsN | apply obsC | apply obA | apply obM | apply obB | apply svA | apply tupA | apply lcA | apply lcS | apply svC | apply liC | apply lbC | apply lsC | apply vIc | apply vBc | apply vSc | apply vLc | apply mapC | apply hdI | apply Ec_heldRulesSLa | apply Sc_heldRulesSLa | apply EW0c_heldRulesSLa | apply EW1c_heldRulesSLa | apply c_heldSyntaxS | apply c_heldSyntaxSL)
  all_goals (try simp only [std, stdM] at *)
  all_goals (try (first | with_reducible apply c_heldSyntaxS | with_reducible apply c_heldSyntaxSL | (simp only [<- List.map_append]; first | with_reducible apply c_heldSyntaxS | with_reducible apply c_heldSyntaxSL)))
  all_goals (try (first | with_reducible rfl | omega | assumption | exact dT ‹_› | exact dF ‹_› | ((first | refine rowGet ?_ | refine getC ?_ rfl); (first | omega | (simp only [std, stdM]; omega) | grind)) | (refine set_row ?_; (simp only [List.length_map, List.length_set, mkTo_len]; omega)) | (refine mkToRow ?_; (first | omega | (simp only [std, stdM]; omega) | grind)) | (refine mkTo_row ?_ rfl; (first | omega | (simp only [std, stdM]; omega) | grind)) | (refine mkTo_step ?_ ?_; (first | omega | (simp only [std, stdM]; omega) | grind); (first | grind [mkTo_all, snocI, snocS, rowSnoc])) | (show (_ : St) = _; rfl) | grind [mkTo_all, snocI, snocS, rowSnoc]))
abbrev P_c_heldExpander (x : Expander) (n : Int) : Prop := CallOK Tryz.prog 50 [] [.agg [vL (x.bindings.map bindingC), vL (x.macros.map rulesC), vI x.scope, vI x.vari, vI x.steps], li n] [] (.sv (li (n + sumBy cB x.bindings + sumBy cR x.macros)))
abbrev a2_c_heldExpander (x : Expander) := (↑(sumBy cB (Expander.bindings x)) : Int)
abbrev a1_c_heldExpander (x : Expander) (n : Int) := (li (n + (a2_c_heldExpander x) + (↑(sumBy cR (Expander.macros x)) : Int)))
theorem run_c_heldExpander (x : Expander) (n : Int) : aexec Tryz.prog (Tryz.f50.body.getD .skip) (entry [] [SV.agg [vL (List.map bindingC (Expander.bindings x)),
 vL (List.map rulesC (Expander.macros x)), vI (Expander.scope x), vI (Expander.vari x), vI (Expander.steps x)], li n] 18) [.call [Mode.rd, Mode.rd] [] (AV.sv (li (n +
 (a2_c_heldExpander x)))), .br [.fin []] [.call [Mode.rd, Mode.rd] [] (AV.sv (a1_c_heldExpander x n)), .br [.fin []] [.fin []]]] (finK Tryz.prog [ResultVar.tmp 4]
 [] (AV.sv (a1_c_heldExpander x n))) = (P_c_heldBindingS (Expander.bindings x) n /\ (decide (n + (a2_c_heldExpander x) < 0) = true -> ObsEq [] [] /\ AV.sv (li (-1 : Int)) = AV.sv
 (a1_c_heldExpander x n)) /\ (decide (n + (a2_c_heldExpander x) < 0) = false -> P_c_heldRulesS (Expander.macros x) (n + (a2_c_heldExpander x)) /\ (decide (n + (a2_c_heldExpander x) +
 (↑(sumBy cR (Expander.macros x)) : Int) < 0) = true -> ObsEq [] [] /\ AV.sv (li (-1 : Int)) = AV.sv (a1_c_heldExpander x n)) /\ (decide (n + (a2_c_heldExpander x) + (↑(sumBy cR
 (Expander.macros x)) : Int) < 0) = false -> ObsEq [] [] /\ AV.sv (a1_c_heldExpander x n) = AV.sv (a1_c_heldExpander x n)))) := by kernel_rfl
theorem c_heldExpander (x : Expander) (n : Int) (h0 : 0 <= n) (h : n + (sumBy cB x.bindings + sumBy cR x.macros : Nat) <= 2147483647) (h21 : x.macros.length <= 2147483647) (hm0 : seqM
 mkB cB x.bindings (n) = x.bindings) (hm1 : seqM mkR cR x.macros (n + sumBy cB x.bindings) = x.macros)  : P_c_heldExpander x n := by
  refine CallOK.ofRun wide (run_c_heldExpander x n) Tryz.call50 Tryz.func50 rfl rfl rfl ?_
  try delta a2_c_heldExpander a1_c_heldExpander
  with_reducible repeat' (first | apply And.intro | exact flatI | exact flatS | exact rowLens | (intro; skip) | apply obsN | apply obsC | apply obA | apply obM | apply obB | apply svA | apply tupA | apply lcA | apply lcS | apply svC | apply liC | apply lbC | apply lsC | apply vIc | apply vBc | apply vSc | apply vLc | apply mapC | apply c_heldBindingS | apply c_heldRulesS)
  all_goals (try simp only [std, stdM] at *)
  all_goals (try (first | with_reducible apply c_heldBindingS | with_reducible apply c_heldRulesS | (simp only [<- List.map_append]; first | with_reducible apply c_heldBindingS | with_reducible apply c_heldRulesS)))
  all_goals (try (first | with_reducible rfl | omega | assumption | exact dT ‹_› | exact dF ‹_› | ((first | refine rowGet ?_ | refine getC ?_ rfl); (first | omega | (simp only [std, stdM]; omega) | grind)) | (refine set_row ?_; (simp only [List.length_map, List.length_set, mkTo_len]; omega)) | (refine mkToRow ?_; (first | omega | (simp only [std, stdM]; omega) | grind)) | (refine mkTo_row ?_ rfl; (first | omega | (simp only [std, stdM]; omega) | grind)) | (refine mkTo_step ?_ ?_; (first | omega | (simp only [std, stdM]; omega) | grind); (first | grind [snocI, snocS, rowSnoc])) | (show (_ : St) = _; rfl) | grind [snocI, snocS, rowSnoc]))
end Go.Proofs.YtegbadciefljcaaGreat
end
section
namespace Go.Proofs.YtegbadciefljcaaGreat
open Go Go.Proofs.YtegbadciefljcaaGreat.Ab
set_option linter.unusedVariables false
set_option linter.unusedSimpArgs false
set_option maxHeartbeats 4000000
abbrev P_c_szIntS (L : List Int) (left : Int) : Prop := CallOK Tryz.prog 92 [] [ll (L.map intC), li left] [] (.sv (li (sz L.length left)))
theorem run_c_szIntS (L : List Int) (left : Int) : aexec Tryz.prog (Tryz.f92.body.getD .skip) (entry [] [ll (List.map intC L), li left] 12) [.br [.fin []]
 [.fin []]] (finK Tryz.prog [ResultVar.tmp 4] [] (AV.sv (li (sz (List.length L) left)))) = (List.length (List.map intC L) <= 9223372036854775807 -> rng .i64 (left -
 (↑(List.length (List.map intC L)) : Int)) /\ (decide (left - (↑(List.length (List.map intC L)) : Int) < 0) = true -> ObsEq [] [] /\ AV.sv (li (-1 : Int)) = AV.sv (li (sz (List.length
 L) left))) /\ (decide (left - (↑(List.length (List.map intC L)) : Int) < 0) = false -> ObsEq [] [] /\ AV.sv (li (left - (↑(List.length (List.map intC L)) : Int))) = AV.sv (li (sz
 (List.length L) left)))) := by kernel_rfl
theorem c_szIntS (L : List Int) (left : Int) (h0 : 0 <= left) (h : left <= 2147483647)  : P_c_szIntS L left := by
  refine CallOK.ofRun wide (run_c_szIntS L left) Tryz.call92 Tryz.func92 rfl rfl rfl ?_
  with_reducible repeat' (first | apply And.intro | exact flatI | exact flatS | exact rowLens | (intro; skip) | apply obsN | apply obsC | apply obA | apply obM | apply obB | apply svA | apply tupA | apply lcA | apply lcS | apply svC | apply liC | apply lbC | apply lsC | apply vIc | apply vBc | apply vSc | apply vLc | apply mapC)
  all_goals (try simp only [std] at *)
  all_goals (try (first | with_reducible rfl | omega | assumption | exact dT ‹_› | exact dF ‹_› | ((first | refine rowGet ?_ | refine getC ?_ rfl); (first | omega | (simp only [std]; omega) | grind)) | (show (_ : St) = _; rfl) | grind [sz, snocI, snocS, rowSnoc]))
abbrev P_c_szSyntaxS (L : List Syntax) (left : Int) : Prop := CallOK Tryz.prog 26 [] [ll (L.map syntaxC), li left] [] (.sv (li (sz (L.length + sumBy wY L) left)))
abbrev P_c_szSyntax (x : Syntax) (left : Int) : Prop := CallOK Tryz.prog 27 [] [syntaxA x, li left] [] (.sv (li (sz (wY x) left)))
def Tc_szSyntaxSLa (L : List Syntax) (left : Int) (x0 : SV) (x1 : SV) : St := St.mk (regsOf 27 [(0, AV.sv (ll (List.map syntaxC L))), (1, AV.sv x1), (5, AV.sv x0)]) [] 0 
def Lc_szSyntaxSLa (L : List Syntax) (left : Int) (k : Nat × Int) : St := Tc_szSyntaxSLa L left (li (↑(Prod.fst k) : Int)) (li (Prod.snd k)) 
abbrev Ic_szSyntaxSLa (L : List Syntax) (left : Int) : Nat -> St -> Prop := Head (Lc_szSyntaxSLa L left) (fun k => Prod.fst k <= List.length L /\ List.length L <= 9223372036854775807 /\ 0 <=
 Prod.snd k /\ Prod.snd k <= left /\ sz (sumBy wY (List.drop (Prod.fst k) L)) (Prod.snd k) = sz (List.length L + sumBy wY L) left) fun k => List.length L - Prod.fst k 
def W0c_szSyntaxSLa (L : List Syntax) (left : Int) (x0 : SV) : St := St.mk (regsOf 27 [(1, AV.sv x0)]) [] 0 
def W1c_szSyntaxSLa (L : List Syntax) (left : Int) (x0 : SV) : St := St.mk (regsOf 27 [(4, AV.sv x0)]) [] 0 
def Yc_szSyntaxSLa (L : List Syntax) (left : Int) : List (Prop × AEx × St) := [(0 <= sz (List.length L + sumBy wY L) left, AEx.exit 0, W0c_szSyntaxSLa L left (li (sz (List.length L
 + sumBy wY L) left))), (sz (List.length L + sumBy wY L) left = (-1 : Int), AEx.ret, W1c_szSyntaxSLa L left (li (-1 : Int)))]

theorem Ec_szSyntaxSLa {L : List Syntax} {left : Int} {k : Nat × Int} {x0 : SV} {x1 : SV} (h0 : x0 = (li (↑(Prod.fst k) : Int))) (h1 : x1 = (li (Prod.snd k))) : Tc_szSyntaxSLa L
 left x0 x1 = Lc_szSyntaxSLa L left k := by
  rw [h0, h1]
  rfl
theorem EW0c_szSyntaxSLa {L : List Syntax} {left : Int} {x0 y0 : SV} (h0 : x0 = y0) : W0c_szSyntaxSLa L left x0 = W0c_szSyntaxSLa L left y0 := by rw [h0]
theorem EW1c_szSyntaxSLa {L : List Syntax} {left : Int} {x0 y0 : SV} (h0 : x0 = y0) : W1c_szSyntaxSLa L left x0 = W1c_szSyntaxSLa L left y0 := by rw [h0]
theorem run_c_szSyntaxSLa (L : List Syntax) (left : Int) (k : Nat × Int) : aexec Tryz.prog (loopAt Tryz.f26 0) (Lc_szSyntaxSLa L left k) [.br [.cells (syntaxF (List.getD L
 (Prod.fst k) default)), .call [Mode.rd, Mode.rd] [] (AV.sv (li (sz (wY (List.getD L (Prod.fst k) default)) (Prod.snd k)))), .br [.ghost (.sel [] [4]), .out 1]
 [.ghost (.sel [] [0, 1, 5]), .goto (List.length L - (Prod.fst k + 1)) (Lc_szSyntaxSLa L left (Prod.fst k + 1, sz (wY (List.getD L (Prod.fst k) default)) (Prod.snd
 k)))]] [.ghost (.sel [] [1]), .out 0]] (loopK (Ic_szSyntaxSLa L left) (Yc_szSyntaxSLa L left) (List.length L - Prod.fst k)) = (List.length (List.map syntaxC L) <=
 9223372036854775807 -> (decide ((↑(Prod.fst k) : Int) < (↑(List.length (List.map syntaxC L)) : Int)) = true -> (0 <= (↑(Prod.fst k) : Int) /\ (List.map syntaxC L)[Int.toNat
 (↑(Prod.fst k) : Int)]? = some (syntaxF (List.getD L (Prod.fst k) default))) /\ P_c_szSyntax (List.getD L (Prod.fst k) default) (Prod.snd k) /\ (decide (sz (wY (List.getD L
 (Prod.fst k) default)) (Prod.snd k) < 0) = true -> sz (List.length L + sumBy wY L) left = (-1 : Int) /\ W1c_szSyntaxSLa L left (li (-1 : Int)) = W1c_szSyntaxSLa L left (li (-1 :
 Int))) /\ (decide (sz (wY (List.getD L (Prod.fst k) default)) (Prod.snd k) < 0) = false -> rng .i64 ((↑(Prod.fst k) : Int) + 1) /\ List.length L - (Prod.fst k + 1) <
 List.length L - Prod.fst k /\ Tc_szSyntaxSLa L left (li ((↑(Prod.fst k) : Int) + 1)) (li (sz (wY (List.getD L (Prod.fst k) default)) (Prod.snd k))) = Lc_szSyntaxSLa L left
 (Prod.fst k + 1, sz (wY (List.getD L (Prod.fst k) default)) (Prod.snd k)) /\ Ic_szSyntaxSLa L left (List.length L - (Prod.fst k + 1)) (Lc_szSyntaxSLa L left (Prod.fst k + 1, sz (wY
 (List.getD L (Prod.fst k) default)) (Prod.snd k))))) /\ (decide ((↑(Prod.fst k) : Int) < (↑(List.length (List.map syntaxC L)) : Int)) = false -> 0 <= sz (List.length L + sumBy wY L)
 left /\ W0c_szSyntaxSLa L left (li (Prod.snd k)) = W0c_szSyntaxSLa L left (li (sz (List.length L + sumBy wY L) left)))) := by kernel_rfl
theorem Sc_szSyntaxSLa (L : List Syntax) (left : Int) (h0 : 0 <= left) (h : left <= 2147483647) (ih : ∀ (x : Syntax), x ∈ L -> ∀ (left : Int), 0 <= left -> left <= 2147483647 ->
 P_c_szSyntax x left)  : LoopSem Tryz.prog (loopAt Tryz.f26 0) (Ic_szSyntaxSLa L left) (Yc_szSyntaxSLa L left) := by
  refine LoopSem.ofHead wide fun k h => ⟨_, _, run_c_szSyntaxSLa L left k, ?_⟩
  obtain ⟨i, n⟩ := k
  simp only at *
  with_reducible repeat' (first | apply And.intro | exact flatI | exact flatS | exact rowLens | exact ih | (intro; skip) | apply obsN | apply obsC | apply obA | apply obM | apply obB | apply svA | apply tupA | apply lcA | apply lcS | apply svC | apply liC | apply lbC | apply lsC | apply vIc | apply vBc | apply vSc | apply vLc | apply mapC | apply hdI | apply Ec_szSyntaxSLa | apply EW0c_szSyntaxSLa | apply EW1c_szSyntaxSLa | apply ih)
  all_goals (try simp only [std] at *)
  all_goals (try (first | with_reducible apply ih | (simp only [<- List.map_append]; first | with_reducible apply ih)))
  all_goals (try (first | with_reducible rfl | omega | assumption | exact dT ‹_› | exact dF ‹_› | ((first | refine rowGet ?_ | refine getC ?_ rfl); (first | omega | (simp only [std]; omega) | grind)) | (show (_ : St) = _; rfl) | grind [drop_get, sumBy, sz, getD_mem', snocI, snocS, rowSnoc]))
theorem run_c_szSyntaxS (L : List Syntax) (left : Int) : aexec Tryz.prog (Tryz.f26.body.getD .skip) (entry [] [ll (List.map syntaxC L), li left] 27) [.br
 [.fin []] [.ghost (.sel [] [0, 1, 5]), .loop (List.length L - 0) (Lc_szSyntaxSLa L left (0, left - (↑(List.length L) : Int))) (Ic_szSyntaxSLa L left) [(0 <= sz
 (List.length L + sumBy wY L) left, AEx.exit 0, W0c_szSyntaxSLa L left (li (sz (List.length L + sumBy wY L) left)), [.fin []]), (sz (List.length L + sumBy wY L) left = (-1 :
 Int), AEx.ret, W1c_szSyntaxSLa L left (li (-1 : Int)), [.fin []])]]] (finK Tryz.prog [ResultVar.tmp 4] [] (AV.sv (li (sz (List.length L + sumBy wY L) left)))) = (List.length
 (List.map syntaxC L) <= 9223372036854775807 -> rng .i64 (left - (↑(List.length (List.map syntaxC L)) : Int)) /\ (decide (left - (↑(List.length (List.map syntaxC L)) : Int) <
 0) = true -> ObsEq [] [] /\ AV.sv (li (-1 : Int)) = AV.sv (li (sz (List.length L + sumBy wY L) left))) /\ (decide (left - (↑(List.length (List.map syntaxC L)) : Int) < 0) = false ->
 Tc_szSyntaxSLa L left (li 0) (li (left - (↑(List.length (List.map syntaxC L)) : Int))) = Lc_szSyntaxSLa L left (0, left - (↑(List.length L) : Int)) /\ Ic_szSyntaxSLa L left
 (List.length L - 0) (Lc_szSyntaxSLa L left (0, left - (↑(List.length L) : Int))) /\ LoopSem Tryz.prog (loopAt Tryz.f26 0) (Ic_szSyntaxSLa L left) (Yc_szSyntaxSLa L left) /\
 (Int.NonNeg (sz (List.length L + sumBy wY L) left - 0) -> ObsEq [] [] /\ AV.sv (li (sz (List.length L + sumBy wY L) left)) = AV.sv (li (sz (List.length L + sumBy wY L) left))) /\ (sz
 (List.length L + sumBy wY L) left = (-1 : Int) -> ObsEq [] [] /\ AV.sv (li (-1 : Int)) = AV.sv (li (sz (List.length L + sumBy wY L) left))) /\ True)) := by kernel_rfl
theorem c_szSyntaxS (L : List Syntax) (left : Int) (h0 : 0 <= left) (h : left <= 2147483647) (ih : ∀ x ∈ L, ∀ (left : Int) (h0 : 0 <= left) (h : left <= 2147483647), P_c_szSyntax x
 left)  : P_c_szSyntaxS L left := by
  refine CallOK.ofRun wide (run_c_szSyntaxS L left) Tryz.call26 Tryz.func26 rfl rfl rfl ?_
  with_reducible repeat' (first | apply And.intro | exact flatI | exact flatS | exact rowLens | exact ih | (intro; skip) | apply obsN | apply obsC | apply obA | apply obM | apply obB | apply svA | apply tupA | apply lcA | apply lcS | apply svC | apply liC | apply lbC | apply lsC | apply vIc | apply vBc | apply vSc | apply vLc | apply mapC | apply hdI | apply Ec_szSyntaxSLa | apply Sc_szSyntaxSLa | apply EW0c_szSyntaxSLa | apply EW1c_szSyntaxSLa)
  all_goals (try simp only [std] at *)
  all_goals (try (first | with_reducible apply ih | (simp only [<- List.map_append]; first | with_reducible apply ih)))
  all_goals (try (first | with_reducible rfl | omega | assumption | exact dT ‹_› | exact dF ‹_› | ((first | refine rowGet ?_ | refine getC ?_ rfl); (first | omega | (simp only [std]; omega) | grind)) | (show (_ : St) = _; rfl) | grind [sz, snocI, snocS, rowSnoc]))
abbrev a1_c_szSyntax_s (x : Syntax) := (↑(List.length (Array.toList (ByteArray.data (Syntax.text x)))) : Int)
abbrev a2_c_szSyntax_s (x : Syntax) (left : Int) := (sz (List.length (Syntax.scopes x)) (left - (a1_c_szSyntax_s x)))
abbrev a3_c_szSyntax_s (x : Syntax) := (List.length (Syntax.items x) + sumBy wY (Syntax.items x))
theorem run_c_szSyntax_s (x : Syntax) (left : Int) : aexec Tryz.prog (Tryz.f27.body.getD .skip) (entry [] [syntaxA x, li left] 25) [.br [.fin []] [.call
 [Mode.rd, Mode.rd] [] (AV.sv (li (a2_c_szSyntax_s x left))), .br [.fin []] [.call [Mode.rd, Mode.rd] [] (AV.sv (li (sz (a3_c_szSyntax_s x) (a2_c_szSyntax_s x left)))),
 .br [.fin []] [.fin []]]]] (finK Tryz.prog [ResultVar.tmp 4] [] (AV.sv (li (sz (wY x) left)))) = (List.length (Array.toList (ByteArray.data (Syntax.text x))) <=
 9223372036854775807 -> rng .i64 (left - (a1_c_szSyntax_s x)) /\ (decide (left - (a1_c_szSyntax_s x) < 0) = true -> ObsEq [] [] /\ AV.sv (li (-1 : Int)) = AV.sv (li (sz (wY x)
 left))) /\ (decide (left - (a1_c_szSyntax_s x) < 0) = false -> P_c_szIntS (Syntax.scopes x) (left - (a1_c_szSyntax_s x)) /\ (decide (sz (List.length (Syntax.scopes x)) (left -
 (a1_c_szSyntax_s x)) < 0) = true -> ObsEq [] [] /\ AV.sv (li (-1 : Int)) = AV.sv (li (sz (wY x) left))) /\ (decide (sz (List.length (Syntax.scopes x)) (left - (a1_c_szSyntax_s x)) <
 0) = false -> P_c_szSyntaxS (Syntax.items x) (a2_c_szSyntax_s x left) /\ (decide (sz (a3_c_szSyntax_s x) (a2_c_szSyntax_s x left) < 0) = true -> ObsEq [] [] /\ AV.sv (li (-1 : Int)) =
 AV.sv (li (sz (wY x) left))) /\ (decide (sz (a3_c_szSyntax_s x) (a2_c_szSyntax_s x left) < 0) = false -> ObsEq [] [] /\ AV.sv (li (sz (a3_c_szSyntax_s x) (a2_c_szSyntax_s x left))) =
 AV.sv (li (sz (wY x) left)))))) := by kernel_rfl
theorem c_szSyntax_s (x : Syntax) (left : Int) (h0 : 0 <= left) (h : left <= 2147483647) (ih : ∀ z ∈ x.items, ∀ (left : Int) (h0 : 0 <= left) (h : left <= 2147483647), P_c_szSyntax z
 left)  : P_c_szSyntax x left := by
  refine CallOK.ofRun wide (run_c_szSyntax_s x left) Tryz.call27 Tryz.func27 rfl rfl rfl ?_
  try delta a1_c_szSyntax_s a2_c_szSyntax_s a3_c_szSyntax_s
  with_reducible repeat' (first | apply And.intro | exact flatI | exact flatS | exact rowLens | exact ih | (intro; skip) | apply obsN | apply obsC | apply obA | apply obM | apply obB | apply svA | apply tupA | apply lcA | apply lcS | apply svC | apply liC | apply lbC | apply lsC | apply vIc | apply vBc | apply vSc | apply vLc | apply mapC | apply c_szIntS | apply c_szSyntaxS | apply ih)
  all_goals (try simp only [std] at *)
  all_goals (try (first | with_reducible apply c_szIntS | with_reducible apply c_szSyntaxS | with_reducible apply ih | (simp only [<- List.map_append]; first | with_reducible apply c_szIntS | with_reducible apply c_szSyntaxS | with_reducible apply ih)))
  all_goals (try (first | with_reducible rfl | omega | assumption | exact dT ‹_› | exact dF ‹_› | ((first | refine rowGet ?_ | refine getC ?_ rfl); (first | omega | (simp only [std]; omega) | grind)) | (show (_ : St) = _; rfl) | grind [wY_eq, sz, wS, snocI, snocS, rowSnoc]))
theorem c_szSyntax (x : Syntax) : ∀ (left : Int) (h0 : 0 <= left) (h : left <= 2147483647), P_c_szSyntax x left := Syntax.ind (P := fun x => ∀ (left : Int) (h0 : 0 <= left) (h : left <= 2147483647), P_c_szSyntax x left) (fun x ih left h0 h => c_szSyntax_s x left h0 h ih) x
abbrev P_c_szBinding (x : Binding) (left : Int) : Prop := CallOK Tryz.prog 91 [] [bindingA x, li left] [] (.sv (li (sz (wB x) left)))
abbrev a1_c_szBinding (x : Binding) := (↑(List.length (Array.toList (ByteArray.data (Binding.text x)))) : Int)
theorem run_c_szBinding (x : Binding) (left : Int) : aexec Tryz.prog (Tryz.f91.body.getD .skip) (entry [] [bindingA x, li left] 19) [.br [.fin []] [.call
 [Mode.rd, Mode.rd] [] (AV.sv (li (sz (List.length (Binding.scopes x)) (left - (a1_c_szBinding x))))), .br [.fin []] [.fin []]]] (finK Tryz.prog [ResultVar.tmp 4] []
 (AV.sv (li (sz (wB x) left)))) = (List.length (Array.toList (ByteArray.data (Binding.text x))) <= 9223372036854775807 -> rng .i64 (left - (a1_c_szBinding x)) /\ (decide (left
 - (a1_c_szBinding x) < 0) = true -> ObsEq [] [] /\ AV.sv (li (-1 : Int)) = AV.sv (li (sz (wB x) left))) /\ (decide (left - (a1_c_szBinding x) < 0) = false -> P_c_szIntS
 (Binding.scopes x) (left - (a1_c_szBinding x)) /\ (decide (sz (List.length (Binding.scopes x)) (left - (a1_c_szBinding x)) < 0) = true -> ObsEq [] [] /\ AV.sv (li (-1 : Int)) = AV.sv
 (li (sz (wB x) left))) /\ (decide (sz (List.length (Binding.scopes x)) (left - (a1_c_szBinding x)) < 0) = false -> ObsEq [] [] /\ AV.sv (li (sz (List.length (Binding.scopes x)) (left
 - (a1_c_szBinding x)))) = AV.sv (li (sz (wB x) left))))) := by kernel_rfl
theorem c_szBinding (x : Binding) (left : Int) (h0 : 0 <= left) (h : left <= 2147483647)  : P_c_szBinding x left := by
  refine CallOK.ofRun wide (run_c_szBinding x left) Tryz.call91 Tryz.func91 rfl rfl rfl ?_
  try delta a1_c_szBinding
  with_reducible repeat' (first | apply And.intro | exact flatI | exact flatS | exact rowLens | (intro; skip) | apply obsN | apply obsC | apply obA | apply obM | apply obB | apply svA | apply tupA | apply lcA | apply lcS | apply svC | apply liC | apply lbC | apply lsC | apply vIc | apply vBc | apply vSc | apply vLc | apply mapC | apply c_szIntS)
  all_goals (try simp only [std] at *)
  all_goals (try (first | with_reducible apply c_szIntS | (simp only [<- List.map_append]; first | with_reducible apply c_szIntS)))
  all_goals (try (first | with_reducible rfl | omega | assumption | exact dT ‹_› | exact dF ‹_› | ((first | refine rowGet ?_ | refine getC ?_ rfl); (first | omega | (simp only [std]; omega) | grind)) | (show (_ : St) = _; rfl) | grind [wB_eq, sz, wS, snocI, snocS, rowSnoc]))
abbrev P_c_szBindingS (L : List Binding) (left : Int) : Prop := CallOK Tryz.prog 25 [] [ll (L.map bindingC), li left] [] (.sv (li (sz (L.length + sumBy wB L) left)))
def Tc_szBindingSLa (L : List Binding) (left : Int) (x0 : SV) (x1 : SV) : St := St.mk (regsOf 27 [(0, AV.sv (ll (List.map bindingC L))), (1, AV.sv x1), (5, AV.sv x0)]) [] 0 
def Lc_szBindingSLa (L : List Binding) (left : Int) (k : Nat × Int) : St := Tc_szBindingSLa L left (li (↑(Prod.fst k) : Int)) (li (Prod.snd k)) 
abbrev Ic_szBindingSLa (L : List Binding) (left : Int) : Nat -> St -> Prop := Head (Lc_szBindingSLa L left) (fun k => Prod.fst k <= List.length L /\ List.length L <= 9223372036854775807 /\
 0 <= Prod.snd k /\ Prod.snd k <= left /\ sz (sumBy wB (List.drop (Prod.fst k) L)) (Prod.snd k) = sz (List.length L + sumBy wB L) left) fun k => List.length L - Prod.fst k 
def W0c_szBindingSLa (L : List Binding) (left : Int) (x0 : SV) : St := St.mk (regsOf 27 [(1, AV.sv x0)]) [] 0 
def W1c_szBindingSLa (L : List Binding) (left : Int) (x0 : SV) : St := St.mk (regsOf 27 [(4, AV.sv x0)]) [] 0 
def Yc_szBindingSLa (L : List Binding) (left : Int) : List (Prop × AEx × St) := [(0 <= sz (List.length L + sumBy wB L) left, AEx.exit 0, W0c_szBindingSLa L left (li (sz (List.length
 L + sumBy wB L) left))), (sz (List.length L + sumBy wB L) left = (-1 : Int), AEx.ret, W1c_szBindingSLa L left (li (-1 : Int)))]

theorem Ec_szBindingSLa {L : List Binding} {left : Int} {k : Nat × Int} {x0 : SV} {x1 : SV} (h0 : x0 = (li (↑(Prod.fst k) : Int))) (h1 : x1 = (li (Prod.snd k))) : Tc_szBindingSLa L
 left x0 x1 = Lc_szBindingSLa L left k := by
  rw [h0, h1]
  rfl
theorem EW0c_szBindingSLa {L : List Binding} {left : Int} {x0 y0 : SV} (h0 : x0 = y0) : W0c_szBindingSLa L left x0 = W0c_szBindingSLa L left y0 := by rw [h0]
theorem EW1c_szBindingSLa {L : List Binding} {left : Int} {x0 y0 : SV} (h0 : x0 = y0) : W1c_szBindingSLa L left x0 = W1c_szBindingSLa L left y0 := by rw [h0]
theorem run_c_szBindingSLa (L : List Binding) (left : Int) (k : Nat × Int) : aexec Tryz.prog (loopAt Tryz.f25 0) (Lc_szBindingSLa L left k) [.br [.cells (bindingF (List.getD
 L (Prod.fst k) default)), .call [Mode.rd, Mode.rd] [] (AV.sv (li (sz (wB (List.getD L (Prod.fst k) default)) (Prod.snd k)))), .br [.ghost (.sel [] [4]), .out 1]
 [.ghost (.sel [] [0, 1, 5]), .goto (List.length L - (Prod.fst k + 1)) (Lc_szBindingSLa L left (Prod.fst k + 1, sz (wB (List.getD L (Prod.fst k) default)) (Prod.snd
 k)))]] [.ghost (.sel [] [1]), .out 0]] (loopK (Ic_szBindingSLa L left) (Yc_szBindingSLa L left) (List.length L - Prod.fst k)) = (List.length (List.map bindingC L) <=
 9223372036854775807 -> (decide ((↑(Prod.fst k) : Int) < (↑(List.length (List.map bindingC L)) : Int)) = true -> (0 <= (↑(Prod.fst k) : Int) /\ (List.map bindingC L)[Int.toNat
 (↑(Prod.fst k) : Int)]? = some (bindingF (List.getD L (Prod.fst k) default))) /\ P_c_szBinding (List.getD L (Prod.fst k) default) (Prod.snd k) /\ (decide (sz (wB (List.getD L
 (Prod.fst k) default)) (Prod.snd k) < 0) = true -> sz (List.length L + sumBy wB L) left = (-1 : Int) /\ W1c_szBindingSLa L left (li (-1 : Int)) = W1c_szBindingSLa L left (li (-1 :
 Int))) /\ (decide (sz (wB (List.getD L (Prod.fst k) default)) (Prod.snd k) < 0) = false -> rng .i64 ((↑(Prod.fst k) : Int) + 1) /\ List.length L - (Prod.fst k + 1) <
 List.length L - Prod.fst k /\ Tc_szBindingSLa L left (li ((↑(Prod.fst k) : Int) + 1)) (li (sz (wB (List.getD L (Prod.fst k) default)) (Prod.snd k))) = Lc_szBindingSLa L left
 (Prod.fst k + 1, sz (wB (List.getD L (Prod.fst k) default)) (Prod.snd k)) /\ Ic_szBindingSLa L left (List.length L - (Prod.fst k + 1)) (Lc_szBindingSLa L left (Prod.fst k + 1, sz
 (wB (List.getD L (Prod.fst k) default)) (Prod.snd k))))) /\ (decide ((↑(Prod.fst k) : Int) < (↑(List.length (List.map bindingC L)) : Int)) = false -> 0 <= sz (List.length L + sumBy
 wB L) left /\ W0c_szBindingSLa L left (li (Prod.snd k)) = W0c_szBindingSLa L left (li (sz (List.length L + sumBy wB L) left)))) := by kernel_rfl
theorem Sc_szBindingSLa (L : List Binding) (left : Int) (h0 : 0 <= left) (h : left <= 2147483647)  : LoopSem Tryz.prog (loopAt Tryz.f25 0) (Ic_szBindingSLa L left) (Yc_szBindingSLa L
 left) := by
  refine LoopSem.ofHead wide fun k h => ⟨_, _, run_c_szBindingSLa L left k, ?_⟩
  obtain ⟨i, n⟩ := k
  simp only at *
  with_reducible repeat' (first | apply And.intro | exact flatI | exact flatS | exact rowLens | (intro; skip) | apply obsN | apply obsC | apply obA | apply obM | apply obB | apply svA | apply tupA | apply lcA | apply lcS | apply svC | apply liC | apply lbC | apply lsC | apply vIc | apply vBc | apply vSc | apply vLc | apply mapC | apply hdI | apply Ec_szBindingSLa | apply EW0c_szBindingSLa | apply EW1c_szBindingSLa | apply c_szBinding)
  all_goals (try simp only [std] at *)
  all_goals (try (first | with_reducible apply c_szBinding | (simp only [<- List.map_append]; first | with_reducible apply c_szBinding)))
  all_goals (try (first | with_reducible rfl | omega | assumption | exact dT ‹_› | exact dF ‹_› | ((first | refine rowGet ?_ | refine getC ?_ rfl); (first | omega | (simp only [std]; omega) | grind)) | (show (_ : St) = _; rfl) | grind [drop_get, sumBy, sz, getD_mem', snocI, snocS, rowSnoc]))
theorem run_c_szBindingS (L : List Binding) (left : Int) : aexec Tryz.prog (Tryz.f25.body.getD .skip) (entry [] [ll (List.map bindingC L), li left] 27) [.br
 [.fin []] [.ghost (.sel [] [0, 1, 5]), .loop (List.length L - 0) (Lc_szBindingSLa L left (0, left - (↑(List.length L) : Int))) (Ic_szBindingSLa L left) [(0 <= sz
 (List.length L + sumBy wB L) left, AEx.exit 0, W0c_szBindingSLa L left (li (sz (List.length L + sumBy wB L) left)), [.fin []]), (sz (List.length L + sumBy wB L) left = (-1 :
 Int), AEx.ret, W1c_szBindingSLa L left (li (-1 : Int)), [.fin []])]]] (finK Tryz.prog [ResultVar.tmp 4] [] (AV.sv (li (sz (List.length L + sumBy wB L) left)))) = (List.length
 (List.map bindingC L) <= 9223372036854775807 -> rng .i64 (left - (↑(List.length (List.map bindingC L)) : Int)) /\ (decide (left - (↑(List.length (List.map bindingC L)) : Int)
 < 0) = true -> ObsEq [] [] /\ AV.sv (li (-1 : Int)) = AV.sv (li (sz (List.length L + sumBy wB L) left))) /\ (decide (left - (↑(List.length (List.map bindingC L)) : Int) < 0) = false
 -> Tc_szBindingSLa L left (li 0) (li (left - (↑(List.length (List.map bindingC L)) : Int))) = Lc_szBindingSLa L left (0, left - (↑(List.length L) : Int)) /\ Ic_szBindingSLa L left
 (List.length L - 0) (Lc_szBindingSLa L left (0, left - (↑(List.length L) : Int))) /\ LoopSem Tryz.prog (loopAt Tryz.f25 0) (Ic_szBindingSLa L left) (Yc_szBindingSLa L left) /\
 (Int.NonNeg (sz (List.length L + sumBy wB L) left - 0) -> ObsEq [] [] /\ AV.sv (li (sz (List.length L + sumBy wB L) left)) = AV.sv (li (sz (List.length L + sumBy wB L) left))) /\ (sz
 (List.length L + sumBy wB L) left = (-1 : Int) -> ObsEq [] [] /\ AV.sv (li (-1 : Int)) = AV.sv (li (sz (List.length L + sumBy wB L) left))) /\ True)) := by kernel_rfl
theorem c_szBindingS (L : List Binding) (left : Int) (h0 : 0 <= left) (h : left <= 2147483647)  : P_c_szBindingS L left := by
  refine CallOK.ofRun wide (run_c_szBindingS L left) Tryz.call25 Tryz.func25 rfl rfl rfl ?_
  with_reducible repeat' (first | apply And.intro | exact flatI | exact flatS | exact rowLens | (intro; skip) | apply obsN | apply obsC | apply obA | apply obM | apply obB | apply svA | apply tupA | apply lcA | apply lcS | apply svC | apply liC | apply lbC | apply lsC | apply vIc | apply vBc | apply vSc | apply vLc | apply mapC | apply hdI | apply Ec_szBindingSLa | apply Sc_szBindingSLa | apply EW0c_szBindingSLa | apply EW1c_szBindingSLa | apply c_szBinding)
  all_goals (try simp only [std] at *)
  all_goals (try (first | with_reducible apply c_szBinding | (simp only [<- List.map_append]; first | with_reducible apply c_szBinding)))
  all_goals (try (first | with_reducible rfl | omega | assumption | exact dT ‹_› | exact dF ‹_› | ((first | refine rowGet ?_ | refine getC ?_ rfl); (first | omega | (simp only [std]; omega) | grind)) | (show (_ : St) = _; rfl) | grind [sz, snocI, snocS, rowSnoc]))
abbrev P_c_szRules (x : Rules) (left : Int) : Prop := CallOK Tryz.prog 53 [] [rulesA x, li left] [] (.sv (li (sz (wR x) left)))
abbrev a2_c_szRules (x : Rules) := (List.length (Rules.literals x) + sumBy wY (Rules.literals x))
abbrev a1_c_szRules (x : Rules) (left : Int) := (sz (List.length (Rules.patterns x) + sumBy wY (Rules.patterns x)) (sz (a2_c_szRules x) left))
abbrev a3_c_szRules (x : Rules) := (List.length (Rules.templates x) + sumBy wY (Rules.templates x))
theorem run_c_szRules (x : Rules) (left : Int) : aexec Tryz.prog (Tryz.f53.body.getD .skip) (entry [] [rulesA x, li left] 24) [.call [Mode.rd, Mode.rd] []
 (AV.sv (li (sz (a2_c_szRules x) left))), .br [.fin []] [.call [Mode.rd, Mode.rd] [] (AV.sv (li (a1_c_szRules x left))), .br [.fin []] [.call [Mode.rd, Mode.rd]
 [] (AV.sv (li (sz (a3_c_szRules x) (a1_c_szRules x left)))), .br [.fin []] [.fin []]]]] (finK Tryz.prog [ResultVar.tmp 4] [] (AV.sv (li (sz (wR x) left)))) =
 (P_c_szSyntaxS (Rules.literals x) left /\ (decide (sz (a2_c_szRules x) left < 0) = true -> ObsEq [] [] /\ AV.sv (li (-1 : Int)) = AV.sv (li (sz (wR x) left))) /\ (decide (sz
 (a2_c_szRules x) left < 0) = false -> P_c_szSyntaxS (Rules.patterns x) (sz (a2_c_szRules x) left) /\ (decide (sz (List.length (Rules.patterns x) + sumBy wY (Rules.patterns x)) (sz
 (a2_c_szRules x) left) < 0) = true -> ObsEq [] [] /\ AV.sv (li (-1 : Int)) = AV.sv (li (sz (wR x) left))) /\ (decide (sz (List.length (Rules.patterns x) + sumBy wY (Rules.patterns
 x)) (sz (a2_c_szRules x) left) < 0) = false -> P_c_szSyntaxS (Rules.templates x) (a1_c_szRules x left) /\ (decide (sz (a3_c_szRules x) (a1_c_szRules x left) < 0) = true -> ObsEq []
 [] /\ AV.sv (li (-1 : Int)) = AV.sv (li (sz (wR x) left))) /\ (decide (sz (a3_c_szRules x) (a1_c_szRules x left) < 0) = false -> ObsEq [] [] /\ AV.sv (li (sz (a3_c_szRules x)
 (a1_c_szRules x left))) = AV.sv (li (sz (wR x) left)))))) := by kernel_rfl
theorem c_szRules (x : Rules) (left : Int) (h0 : 0 <= left) (h : left <= 2147483647)  : P_c_szRules x left := by
  refine CallOK.ofRun wide (run_c_szRules x left) Tryz.call53 Tryz.func53 rfl rfl rfl ?_
  try delta a2_c_szRules a1_c_szRules a3_c_szRules
  with_reducible repeat' (first | apply And.intro | exact flatI | exact flatS | exact rowLens | (intro; skip) | apply obsN | apply obsC | apply obA | apply obM | apply obB | apply svA | apply tupA | apply lcA | apply lcS | apply svC | apply liC | apply lbC | apply lsC | apply vIc | apply vBc | apply vSc | apply vLc | apply mapC | apply c_szSyntaxS | apply c_szSyntax)
  all_goals (try simp only [std] at *)
  all_goals (try (first | with_reducible apply c_szSyntaxS | with_reducible apply c_szSyntax | (simp only [<- List.map_append]; first | with_reducible apply c_szSyntaxS | with_reducible apply c_szSyntax)))
  all_goals (try (first | with_reducible rfl | omega | assumption | exact dT ‹_› | exact dF ‹_› | ((first | refine rowGet ?_ | refine getC ?_ rfl); (first | omega | (simp only [std]; omega) | grind)) | (show (_ : St) = _; rfl) | grind [wR_eq, sz, wS, snocI, snocS, rowSnoc]))
abbrev P_c_szRulesS (L : List Rules) (left : Int) : Prop := CallOK Tryz.prog 81 [] [ll (L.map rulesC), li left] [] (.sv (li (sz (L.length + sumBy wR L) left)))
def Tc_szRulesSLa (L : List Rules) (left : Int) (x0 : SV) (x1 : SV) : St := St.mk (regsOf 27 [(0, AV.sv (ll (List.map rulesC L))), (1, AV.sv x1), (5, AV.sv x0)]) [] 0 
def Lc_szRulesSLa (L : List Rules) (left : Int) (k : Nat × Int) : St := Tc_szRulesSLa L left (li (↑(Prod.fst k) : Int)) (li (Prod.snd k)) 
abbrev Ic_szRulesSLa (L : List Rules) (left : Int) : Nat -> St -> Prop := Head (Lc_szRulesSLa L left) (fun k => Prod.fst k <= List.length L /\ List.length L <= 9223372036854775807 /\ 0 <=
 Prod.snd k /\ Prod.snd k <= left /\ sz (sumBy wR (List.drop (Prod.fst k) L)) (Prod.snd k) = sz (List.length L + sumBy wR L) left) fun k => List.length L - Prod.fst k 
def W0c_szRulesSLa (L : List Rules) (left : Int) (x0 : SV) : St := St.mk (regsOf 27 [(1, AV.sv x0)]) [] 0 
def W1c_szRulesSLa (L : List Rules) (left : Int) (x0 : SV) : St := St.mk (regsOf 27 [(4, AV.sv x0)]) [] 0 
def Yc_szRulesSLa (L : List Rules) (left : Int) : List (Prop × AEx × St) := [(0 <= sz (List.length L + sumBy wR L) left, AEx.exit 0, W0c_szRulesSLa L left (li (sz (List.length L +
 sumBy wR L) left))), (sz (List.length L + sumBy wR L) left = (-1 : Int), AEx.ret, W1c_szRulesSLa L left (li (-1 : Int)))]

theorem Ec_szRulesSLa {L : List Rules} {left : Int} {k : Nat × Int} {x0 : SV} {x1 : SV} (h0 : x0 = (li (↑(Prod.fst k) : Int))) (h1 : x1 = (li (Prod.snd k))) : Tc_szRulesSLa L left
 x0 x1 = Lc_szRulesSLa L left k := by
  rw [h0, h1]
  rfl
theorem EW0c_szRulesSLa {L : List Rules} {left : Int} {x0 y0 : SV} (h0 : x0 = y0) : W0c_szRulesSLa L left x0 = W0c_szRulesSLa L left y0 := by rw [h0]
theorem EW1c_szRulesSLa {L : List Rules} {left : Int} {x0 y0 : SV} (h0 : x0 = y0) : W1c_szRulesSLa L left x0 = W1c_szRulesSLa L left y0 := by rw [h0]
abbrev a1_c_szRulesSLa (L : List Rules) (k : Nat × Int) := (List.getD L (Prod.fst k) default)
theorem run_c_szRulesSLa (L : List Rules) (left : Int) (k : Nat × Int) : aexec Tryz.prog (loopAt Tryz.f81 0) (Lc_szRulesSLa L left k) [.br [.cells (rulesF (a1_c_szRulesSLa L
 k)), .call [Mode.rd, Mode.rd] [] (AV.sv (li (sz (wR (a1_c_szRulesSLa L k)) (Prod.snd k)))), .br [.ghost (.sel [] [4]), .out 1] [.ghost (.sel [] [0, 1,
 5]), .goto (List.length L - (Prod.fst k + 1)) (Lc_szRulesSLa L left (Prod.fst k + 1, sz (wR (a1_c_szRulesSLa L k)) (Prod.snd k)))]] [.ghost (.sel [] [1]), .out 0]]
 (loopK (Ic_szRulesSLa L left) (Yc_szRulesSLa L left) (List.length L - Prod.fst k)) = (List.length (List.map rulesC L) <= 9223372036854775807 -> (decide ((↑(Prod.fst k) : Int) <
 (↑(List.length (List.map rulesC L)) : Int)) = true -> (0 <= (↑(Prod.fst k) : Int) /\ (List.map rulesC L)[Int.toNat (↑(Prod.fst k) : Int)]? = some (rulesF (a1_c_szRulesSLa L k))) /\
 P_c_szRules (a1_c_szRulesSLa L k) (Prod.snd k) /\ (decide (sz (wR (a1_c_szRulesSLa L k)) (Prod.snd k) < 0) = true -> sz (List.length L + sumBy wR L) left = (-1 : Int) /\
 W1c_szRulesSLa L left (li (-1 : Int)) = W1c_szRulesSLa L left (li (-1 : Int))) /\ (decide (sz (wR (a1_c_szRulesSLa L k)) (Prod.snd k) < 0) = false -> rng .i64 ((↑(Prod.fst k)
 : Int) + 1) /\ List.length L - (Prod.fst k + 1) < List.length L - Prod.fst k /\ Tc_szRulesSLa L left (li ((↑(Prod.fst k) : Int) + 1)) (li (sz (wR (a1_c_szRulesSLa L k)) (Prod.snd
 k))) = Lc_szRulesSLa L left (Prod.fst k + 1, sz (wR (a1_c_szRulesSLa L k)) (Prod.snd k)) /\ Ic_szRulesSLa L left (List.length L - (Prod.fst k + 1)) (Lc_szRulesSLa L left (Prod.fst
 k + 1, sz (wR (a1_c_szRulesSLa L k)) (Prod.snd k))))) /\ (decide ((↑(Prod.fst k) : Int) < (↑(List.length (List.map rulesC L)) : Int)) = false -> 0 <= sz (List.length L + sumBy wR L)
 left /\ W0c_szRulesSLa L left (li (Prod.snd k)) = W0c_szRulesSLa L left (li (sz (List.length L + sumBy wR L) left)))) := by kernel_rfl
theorem Sc_szRulesSLa (L : List Rules) (left : Int) (h0 : 0 <= left) (h : left <= 2147483647)  : LoopSem Tryz.prog (loopAt Tryz.f81 0) (Ic_szRulesSLa L left) (Yc_szRulesSLa L left)
 := by
  refine LoopSem.ofHead wide fun k h => ⟨_, _, run_c_szRulesSLa L left k, ?_⟩
  try delta a1_c_szRulesSLa
  obtain ⟨i, n⟩ := k
  simp only at *
  with_reducible repeat' (first | apply And.intro | exact flatI | exact flatS | exact rowLens | (intro; skip) | apply obsN | apply obsC | apply obA | apply obM | apply obB | apply svA | apply tupA | apply lcA | apply lcS | apply svC | apply liC | apply lbC | apply lsC | apply vIc | apply vBc | apply vSc | apply vLc | apply mapC | apply hdI | apply Ec_szRulesSLa | apply EW0c_szRulesSLa | apply EW1c_szRulesSLa | apply c_szRules)
  all_goals (try simp only [std] at *)
  all_goals (try (first | with_reducible apply c_szRules | (simp only [<- List.map_append]; first | with_reducible apply c_szRules)))
  all_goals (try (first | with_reducible rfl | omega | assumption | exact dT ‹_› | exact dF ‹_› | ((first | refine rowGet ?_ | refine getC ?_ rfl); (first | omega | (simp only [std]; omega) | grind)) | (show (_ : St) = _; rfl) | grind [drop_get, sumBy, sz, getD_mem', snocI, snocS, rowSnoc]))
abbrev a1_c_szRulesS (L : List Rules) (left : Int) := (li (sz (List.length L + sumBy wR L) left))
theorem run_c_szRulesS (L : List Rules) (left : Int) : aexec Tryz.prog (Tryz.f81.body.getD .skip) (entry [] [ll (List.map rulesC L), li left] 27) [.br [.fin
 []] [.ghost (.sel [] [0, 1, 5]), .loop (List.length L - 0) (Lc_szRulesSLa L left (0, left - (↑(List.length L) : Int))) (Ic_szRulesSLa L left) [(0 <= sz (List.length L +
 sumBy wR L) left, AEx.exit 0, W0c_szRulesSLa L left (a1_c_szRulesS L left), [.fin []]), (sz (List.length L + sumBy wR L) left = (-1 : Int), AEx.ret, W1c_szRulesSLa L left (li
 (-1 : Int)), [.fin []])]]] (finK Tryz.prog [ResultVar.tmp 4] [] (AV.sv (a1_c_szRulesS L left))) = (List.length (List.map rulesC L) <= 9223372036854775807 -> rng .i64 (left
 - (↑(List.length (List.map rulesC L)) : Int)) /\ (decide (left - (↑(List.length (List.map rulesC L)) : Int) < 0) = true -> ObsEq [] [] /\ AV.sv (li (-1 : Int)) = AV.sv (a1_c_szRulesS
 L left)) /\ (decide (left - (↑(List.length (List.map rulesC L)) : Int) < 0) = false -> Tc_szRulesSLa L left (li 0) (li (left - (↑(List.length (List.map rulesC L)) : Int))) =
 Lc_szRulesSLa L left (0, left - (↑(List.length L) : Int)) /\ Ic_szRulesSLa L left (List.length L - 0) (Lc_szRulesSLa L left (0, left - (↑(List.length L) : Int))) /\ LoopSem
 Tryz.prog (loopAt Tryz.f81 0) (Ic_szRulesSLa L left) (Yc_szRulesSLa L left) /\ (Int.NonNeg (sz (List.length L + sumBy wR L) left - 0) -> ObsEq [] [] /\ AV.sv (a1_c_szRulesS L left) =
 AV.sv (a1_c_szRulesS L left)) /\ (sz (List.length L + sumBy wR L) left = (-1 : Int) -> ObsEq [] [] /\ AV.sv (li (-1 : Int)) = AV.sv (a1_c_szRulesS L left)) /\ True)) := by kernel_rfl
theorem c_szRulesS (L : List Rules) (left : Int) (h0 : 0 <= left) (h : left <= 2147483647)  : P_c_szRulesS L left := by
  refine CallOK.ofRun wide (run_c_szRulesS L left) Tryz.call81 Tryz.func81 rfl rfl rfl ?_
  try delta a1_c_szRulesS
  with_reducible repeat' (first | apply And.intro | exact flatI | exact flatS | exact rowLens | (intro; skip) | apply obsN | apply obsC | apply obA | apply obM | apply obB | apply svA | apply tupA | apply lcA | apply lcS | apply svC | apply liC | apply lbC | apply lsC | apply vIc | apply vBc | apply vSc | apply vLc | apply mapC | apply hdI | apply Ec_szRulesSLa | apply Sc_szRulesSLa | apply EW0c_szRulesSLa | apply EW1c_szRulesSLa | apply c_szRules)
  all_goals (try simp only [std] at *)
  all_goals (try (first | with_reducible apply c_szRules | (simp only [<- List.map_append]; first | with_reducible apply c_szRules)))
  all_goals (try (first | with_reducible rfl | omega | assumption | exact dT ‹_› | exact dF ‹_› | ((first | refine rowGet ?_ | refine getC ?_ rfl); (first | omega | (simp only [std]; omega) | grind)) | (show (_ : St) = _; rfl) | grind [sz, snocI, snocS, rowSnoc]))
abbrev P_c_szExpander (x : Expander) (left : Int) : Prop := CallOK Tryz.prog 20 [] [expanderA x, li left] [] (.sv (li (sz (wX x) left)))
abbrev a1_c_szExpander (x : Expander) := (List.length (Expander.bindings x) + sumBy wB (Expander.bindings x))
abbrev a2_c_szExpander (x : Expander) := (List.length (Expander.macros x) + sumBy wR (Expander.macros x))
theorem run_c_szExpander (x : Expander) (left : Int) : aexec Tryz.prog (Tryz.f20.body.getD .skip) (entry [] [expanderA x, li left] 18) [.call [Mode.rd,
 Mode.rd] [] (AV.sv (li (sz (a1_c_szExpander x) left))), .br [.fin []] [.call [Mode.rd, Mode.rd] [] (AV.sv (li (sz (a2_c_szExpander x) (sz (a1_c_szExpander x) left)))),
 .br [.fin []] [.fin []]]] (finK Tryz.prog [ResultVar.tmp 4] [] (AV.sv (li (sz (wX x) left)))) = (P_c_szBindingS (Expander.bindings x) left /\ (decide (sz (a1_c_szExpander
 x) left < 0) = true -> ObsEq [] [] /\ AV.sv (li (-1 : Int)) = AV.sv (li (sz (wX x) left))) /\ (decide (sz (a1_c_szExpander x) left < 0) = false -> P_c_szRulesS (Expander.macros x) (sz
 (a1_c_szExpander x) left) /\ (decide (sz (a2_c_szExpander x) (sz (a1_c_szExpander x) left) < 0) = true -> ObsEq [] [] /\ AV.sv (li (-1 : Int)) = AV.sv (li (sz (wX x) left))) /\
 (decide (sz (a2_c_szExpander x) (sz (a1_c_szExpander x) left) < 0) = false -> ObsEq [] [] /\ AV.sv (li (sz (a2_c_szExpander x) (sz (a1_c_szExpander x) left))) = AV.sv (li (sz (wX x)
 left))))) := by kernel_rfl
theorem c_szExpander (x : Expander) (left : Int) (h0 : 0 <= left) (h : left <= 2147483647)  : P_c_szExpander x left := by
  refine CallOK.ofRun wide (run_c_szExpander x left) Tryz.call20 Tryz.func20 rfl rfl rfl ?_
  try delta a1_c_szExpander a2_c_szExpander
  with_reducible repeat' (first | apply And.intro | exact flatI | exact flatS | exact rowLens | (intro; skip) | apply obsN | apply obsC | apply obA | apply obM | apply obB | apply svA | apply tupA | apply lcA | apply lcS | apply svC | apply liC | apply lbC | apply lsC | apply vIc | apply vBc | apply vSc | apply vLc | apply mapC | apply c_szBindingS | apply c_szRulesS)
  all_goals (try simp only [std] at *)
  all_goals (try (first | with_reducible apply c_szBindingS | with_reducible apply c_szRulesS | (simp only [<- List.map_append]; first | with_reducible apply c_szBindingS | with_reducible apply c_szRulesS)))
  all_goals (try (first | with_reducible rfl | omega | assumption | exact dT ‹_› | exact dF ‹_› | ((first | refine rowGet ?_ | refine getC ?_ rfl); (first | omega | (simp only [std]; omega) | grind)) | (show (_ : St) = _; rfl) | grind [wX_eq, sz, wS, snocI, snocS, rowSnoc]))
end Go.Proofs.YtegbadciefljcaaGreat
end
section
namespace Go.Proofs.YtegbadciefljcaaGreat
open Go Go.Proofs.YtegbadciefljcaaGreat.Ab
set_option linter.unusedVariables false
set_option linter.unusedSimpArgs false
set_option maxHeartbeats 4000000
abbrev P_c_toIntS (L : List Int) : Prop := CallOK Tryz.prog 97 [] [ll (L.map intC)] [.arr true 1 (L.map intC)] (.sv (.one (.ref 0)))
def Tc_toIntSLa (L : List Int) (x0 : SV) (x1 : Ob) : St := St.mk (regsOf 22 [(0, AV.sv (ll (List.map intC L))), (3, AV.sv (SV.one (AC.ref 0))), (4, AV.sv x0)]) [x1] 0 
def Lc_toIntSLa (L : List Int) (k : Nat) : St := Tc_toIntSLa L (li (k : Int)) (Ob.arr true 1 (List.map intC (fillTo L k))) 
abbrev Ic_toIntSLa (L : List Int) : Nat -> St -> Prop := Head (Lc_toIntSLa L) (fun k => k <= List.length L /\ List.length L <= 9223372036854775807) fun k => List.length L - k 
def W0c_toIntSLa (L : List Int) (x0 : Ob) : St := St.mk (regsOf 22 [(3, AV.sv (SV.one (AC.ref 0)))]) [x0] 0 
def Yc_toIntSLa (L : List Int) : List (Prop × AEx × St) := [(True, AEx.exit 0, W0c_toIntSLa L (Ob.arr true 1 (List.map intC L)))]

theorem Ec_toIntSLa {L : List Int} {k : Nat} {x0 : SV} {x1 : Ob} (h0 : x0 = (li (k : Int))) (h1 : x1 = (Ob.arr true 1 (List.map intC (fillTo L k)))) : Tc_toIntSLa L x0 x1 =
 Lc_toIntSLa L k := by
  rw [h0, h1]
  rfl
theorem EW0c_toIntSLa {L : List Int} {x0 y0 : Ob} (h0 : x0 = y0) : W0c_toIntSLa L x0 = W0c_toIntSLa L y0 := by rw [h0]
theorem run_c_toIntSLa (L : List Int) (k : Nat) : aexec Tryz.prog (loopAt Tryz.f97 0) (Lc_toIntSLa L k) [.br [.cells (intC (List.getD L k default)), .cells (intC
 (List.getD (fillTo L k) (Int.toNat (k : Int)) default)), .ghost (.sel [0] [0, 3, 4]), .goto (List.length L - (k + 1)) (Lc_toIntSLa L (k + 1))] [.ghost (.sel
 [0] [3]), .out 0]] (loopK (Ic_toIntSLa L) (Yc_toIntSLa L) (List.length L - k)) = (List.length (List.map intC L) <= 9223372036854775807 -> (decide ((k : Int) < (↑(List.length
 (List.map intC L)) : Int)) = true -> (0 <= (k : Int) /\ (List.map intC L)[Int.toNat (k : Int)]? = some [cI (List.getD L k 0)]) /\ (0 <= (k : Int) /\ Int.toNat (k : Int) <
 List.length (List.map intC (fillTo L k))) /\ (List.map intC (fillTo L k))[Int.toNat (k : Int)]? = some [cI (List.getD (fillTo L k) (Int.toNat (k : Int)) 0)] /\ rng .i64
 ((k : Int) + 1) /\ List.length L - (k + 1) < List.length L - k /\ Tc_toIntSLa L (li ((k : Int) + 1)) (Ob.arr true 1 (List.set (List.map intC (fillTo L k)) (Int.toNat (k : Int))
 [cI (List.getD L k 0)])) = Lc_toIntSLa L (k + 1) /\ Ic_toIntSLa L (List.length L - (k + 1)) (Lc_toIntSLa L (k + 1))) /\ (decide ((k : Int) < (↑(List.length (List.map intC L)) :
 Int)) = false -> True /\ W0c_toIntSLa L (Ob.arr true 1 (List.map intC (fillTo L k))) = W0c_toIntSLa L (Ob.arr true 1 (List.map intC L)))) := by kernel_rfl
theorem Sc_toIntSLa (L : List Int) (h : List.length L <= 1048576)  : LoopSem Tryz.prog (loopAt Tryz.f97 0) (Ic_toIntSLa L) (Yc_toIntSLa L) := by
  refine LoopSem.ofHead wide fun k h => ⟨_, _, run_c_toIntSLa L k, ?_⟩
  with_reducible repeat' (first | apply And.intro | exact flatI | exact flatS | exact rowLens | (intro; skip) | apply obsN | apply obsC | apply obA | apply obM | apply obB | apply svA | apply tupA | apply lcA | apply lcS | apply svC | apply liC | apply lbC | apply lsC | apply vIc | apply vBc | apply vSc | apply vLc | apply mapC | apply hdI | apply Ec_toIntSLa | apply EW0c_toIntSLa)
  all_goals (try simp only [std] at *)
  all_goals (try (first | with_reducible rfl | omega | assumption | exact dT ‹_› | exact dF ‹_› | ((first | refine rowGet ?_ | refine getC ?_ rfl); (first | omega | (simp only [std]; omega) | grind)) | (refine fill_step ?_ ?_; (first | omega | (simp only [std]; omega) | grind); (first | rfl | exact (Row.eq _).trans rfl)) | (refine fill_init ?_; (first | rfl | exact (Row.eq _).trans rfl)) | (show (_ : St) = _; rfl) | grind [fillTo_all, snocI, snocS, rowSnoc]))
theorem run_c_toIntS (L : List Int) : aexec Tryz.prog (Tryz.f97.body.getD .skip) (entry [] [ll (List.map intC L)] 22) [.ghost (.sel [0] [0, 3, 4]),
 .loop (List.length L - 0) (Lc_toIntSLa L 0) (Ic_toIntSLa L) [(True, AEx.exit 0, W0c_toIntSLa L (Ob.arr true 1 (List.map intC L)), [.fin [0]])]] (finK Tryz.prog
 [ResultVar.tmp 2] [Ob.arr true 1 (List.map intC L)] (AV.sv (SV.one (AC.ref 0)))) = (List.length (List.map intC L) <= 9223372036854775807 -> (0 <= (↑(List.length (List.map intC L)) :
 Int) /\ 8 * Int.toNat (↑(List.length (List.map intC L)) : Int) <= 281474976710656) /\ Tc_toIntSLa L (li 0) (Ob.arr true 1 (List.replicate (Int.toNat (↑(List.length (List.map intC L))
 : Int)) [cI 0])) = Lc_toIntSLa L 0 /\ Ic_toIntSLa L (List.length L - 0) (Lc_toIntSLa L 0) /\ LoopSem Tryz.prog (loopAt Tryz.f97 0) (Ic_toIntSLa L) (Yc_toIntSLa L) /\ (True -> ObsEq
 [Ob.arr true 1 (List.map intC L)] [Ob.arr true 1 (List.map intC L)] /\ AV.sv (SV.one (AC.ref 0)) = AV.sv (SV.one (AC.ref 0))) /\ True) := by kernel_rfl
theorem c_toIntS (L : List Int) (h : L.length <= 1048576)  : P_c_toIntS L := by
  refine CallOK.ofRun wide (run_c_toIntS L) Tryz.call97 Tryz.func97 rfl rfl rfl ?_
  with_reducible repeat' (first | apply And.intro | exact flatI | exact flatS | exact rowLens | (intro; skip) | apply obsN | apply obsC | apply obA | apply obM | apply obB | apply svA | apply tupA | apply lcA | apply lcS | apply svC | apply liC | apply lbC | apply lsC | apply vIc | apply vBc | apply vSc | apply vLc | apply mapC | apply hdI | apply Ec_toIntSLa | apply Sc_toIntSLa | apply EW0c_toIntSLa)
  all_goals (try simp only [std] at *)
  all_goals (try (first | with_reducible rfl | omega | assumption | exact dT ‹_› | exact dF ‹_› | ((first | refine rowGet ?_ | refine getC ?_ rfl); (first | omega | (simp only [std]; omega) | grind)) | (refine fill_step ?_ ?_; (first | omega | (simp only [std]; omega) | grind); (first | rfl | exact (Row.eq _).trans rfl)) | (refine fill_init ?_; (first | rfl | exact (Row.eq _).trans rfl)) | (show (_ : St) = _; rfl) | grind [snocI, snocS, rowSnoc]))
abbrev P_c_toSyntaxS (L : List Syntax) : Prop := CallOK Tryz.prog 30 [] [ll (L.map syntaxC)] [.arr true 5 (L.map syntaxC)] (.sv (.one (.ref 0)))
abbrev P_c_toSyntax (x : Syntax) : Prop := CallOK Tryz.prog 31 [] [syntaxA x] (syntaxO x) (.sv (syntaxR x 0))
def Tc_toSyntaxSLa (L : List Syntax) (x0 : SV) (x1 : Ob) : St := St.mk (regsOf 23 [(0, AV.sv (ll (List.map syntaxC L))), (3, AV.sv (SV.one (AC.ref 0))), (4, AV.sv x0)]) [x1] 0 
def Lc_toSyntaxSLa (L : List Syntax) (k : Nat) : St := Tc_toSyntaxSLa L (li (k : Int)) (Ob.arr true 5 (List.map syntaxC (fillTo L k))) 
abbrev Ic_toSyntaxSLa (L : List Syntax) : Nat -> St -> Prop := Head (Lc_toSyntaxSLa L) (fun k => k <= List.length L /\ List.length L <= 9223372036854775807) fun k => List.length L - k 
def W0c_toSyntaxSLa (L : List Syntax) (x0 : Ob) : St := St.mk (regsOf 23 [(3, AV.sv (SV.one (AC.ref 0)))]) [x0] 0 
def Yc_toSyntaxSLa (L : List Syntax) : List (Prop × AEx × St) := [(True, AEx.exit 0, W0c_toSyntaxSLa L (Ob.arr true 5 (List.map syntaxC L)))]

theorem Ec_toSyntaxSLa {L : List Syntax} {k : Nat} {x0 : SV} {x1 : Ob} (h0 : x0 = (li (k : Int))) (h1 : x1 = (Ob.arr true 5 (List.map syntaxC (fillTo L k)))) : Tc_toSyntaxSLa L x0
 x1 = Lc_toSyntaxSLa L k := by
  rw [h0, h1]
  rfl
theorem EW0c_toSyntaxSLa {L : List Syntax} {x0 y0 : Ob} (h0 : x0 = y0) : W0c_toSyntaxSLa L x0 = W0c_toSyntaxSLa L y0 := by rw [h0]
theorem run_c_toSyntaxSLa (L : List Syntax) (k : Nat) : aexec Tryz.prog (loopAt Tryz.f30 0) (Lc_toSyntaxSLa L k) [.br [.cells (syntaxF (List.getD L k default)), .call
 [Mode.rd] (syntaxO (List.getD L k default)) (AV.sv (syntaxR (List.getD L k default) 0)), .cells (syntaxF (List.getD (fillTo L k) (Int.toNat (k : Int)) default)), .ghost
 (.sel [0] [0, 3, 4]), .goto (List.length L - (k + 1)) (Lc_toSyntaxSLa L (k + 1))] [.ghost (.sel [0] [3]), .out 0]] (loopK (Ic_toSyntaxSLa L) (Yc_toSyntaxSLa L)
 (List.length L - k)) = (List.length (List.map syntaxC L) <= 9223372036854775807 -> (decide ((k : Int) < (↑(List.length (List.map syntaxC L)) : Int)) = true -> (0 <= (k : Int) /\
 (List.map syntaxC L)[Int.toNat (k : Int)]? = some (syntaxF (List.getD L k default))) /\ P_c_toSyntax (List.getD L k default) /\ (0 <= (k : Int) /\ Int.toNat (k : Int) < List.length
 (List.map syntaxC (fillTo L k))) /\ (List.map syntaxC (fillTo L k))[Int.toNat (k : Int)]? = some (syntaxF (List.getD (fillTo L k) (Int.toNat (k : Int)) default)) /\ rng
 IntKind.i64 ((k : Int) + 1) /\ List.length L - (k + 1) < List.length L - k /\ Tc_toSyntaxSLa L (li ((k : Int) + 1)) (Ob.arr true 5 (List.set (List.map syntaxC (fillTo L k))
 (Int.toNat (k : Int)) (syntaxF (List.getD L k default)))) = Lc_toSyntaxSLa L (k + 1) /\ Ic_toSyntaxSLa L (List.length L - (k + 1)) (Lc_toSyntaxSLa L (k + 1))) /\ (decide ((↑k :
 Int) < (↑(List.length (List.map syntaxC L)) : Int)) = false -> True /\ W0c_toSyntaxSLa L (Ob.arr true 5 (List.map syntaxC (fillTo L k))) = W0c_toSyntaxSLa L (Ob.arr true 5 (List.map
 syntaxC L)))) := by kernel_rfl
theorem Sc_toSyntaxSLa (L : List Syntax) (h : List.length L + sumBy wY L <= 1048576) (ih : ∀ (x : Syntax), x ∈ L -> wY x <= 1048576 -> P_c_toSyntax x)  : LoopSem Tryz.prog (loopAt
 Tryz.f30 0) (Ic_toSyntaxSLa L) (Yc_toSyntaxSLa L) := by
  refine LoopSem.ofHead wide fun k h => ⟨_, _, run_c_toSyntaxSLa L k, ?_⟩
  with_reducible repeat' (first | apply And.intro | exact flatI | exact flatS | exact rowLens | exact ih | (intro; skip) | apply obsN | apply obsC | apply obA | apply obM | apply obB | apply svA | apply tupA | apply lcA | apply lcS | apply svC | apply liC | apply lbC | apply lsC | apply vIc | apply vBc | apply vSc | apply vLc | apply mapC | apply hdI | apply Ec_toSyntaxSLa | apply EW0c_toSyntaxSLa | apply ih)
  all_goals (try simp only [std] at *)
  all_goals (try (first | with_reducible apply ih | (simp only [<- List.map_append]; first | with_reducible apply ih)))
  all_goals (try (first | with_reducible rfl | omega | assumption | exact dT ‹_› | exact dF ‹_› | ((first | refine rowGet ?_ | refine getC ?_ rfl); (first | omega | (simp only [std]; omega) | grind)) | (refine fill_step ?_ ?_; (first | omega | (simp only [std]; omega) | grind); (first | rfl | exact (Row.eq _).trans rfl)) | (refine fill_init ?_; (first | rfl | exact (Row.eq _).trans rfl)) | (show (_ : St) = _; rfl) | grind [fillTo_all, getD_mem', sumBy_mem, snocI, snocS, rowSnoc]))
theorem run_c_toSyntaxS (L : List Syntax) : aexec Tryz.prog (Tryz.f30.body.getD .skip) (entry [] [ll (List.map syntaxC L)] 23) [.ghost (.sel [0] [0, 3,
 4]), .loop (List.length L - 0) (Lc_toSyntaxSLa L 0) (Ic_toSyntaxSLa L) [(True, AEx.exit 0, W0c_toSyntaxSLa L (Ob.arr true 5 (List.map syntaxC L)), [.fin [0]])]] (finK
 Tryz.prog [ResultVar.tmp 2] [Ob.arr true 5 (List.map syntaxC L)] (AV.sv (SV.one (AC.ref 0)))) = (List.length (List.map syntaxC L) <= 9223372036854775807 -> (0 <= (↑(List.length
 (List.map syntaxC L)) : Int) /\ 80 * Int.toNat (↑(List.length (List.map syntaxC L)) : Int) <= 281474976710656) /\ Tc_toSyntaxSLa L (li 0) (Ob.arr true 5 (List.replicate (Int.toNat
 (↑(List.length (List.map syntaxC L)) : Int)) [cI 0, cI 0, cS (ByteArray.mk #[]), Cell.list [], Cell.list []])) = Lc_toSyntaxSLa L 0 /\ Ic_toSyntaxSLa L (List.length L - 0)
 (Lc_toSyntaxSLa L 0) /\ LoopSem Tryz.prog (loopAt Tryz.f30 0) (Ic_toSyntaxSLa L) (Yc_toSyntaxSLa L) /\ (True -> ObsEq [Ob.arr true 5 (List.map syntaxC L)] [Ob.arr true 5 (List.map
 syntaxC L)] /\ AV.sv (SV.one (AC.ref 0)) = AV.sv (SV.one (AC.ref 0))) /\ True) := by kernel_rfl
theorem c_toSyntaxS (L : List Syntax) (h : L.length + sumBy wY L <= 1048576) (ih : ∀ x ∈ L, ∀ (h : wY x <= 1048576), P_c_toSyntax x)  : P_c_toSyntaxS L := by
  refine CallOK.ofRun wide (run_c_toSyntaxS L) Tryz.call30 Tryz.func30 rfl rfl rfl ?_
  with_reducible repeat' (first | apply And.intro | exact flatI | exact flatS | exact rowLens | exact ih | (intro; skip) | apply obsN | apply obsC | apply obA | apply obM | apply obB | apply svA | apply tupA | apply lcA | apply lcS | apply svC | apply liC | apply lbC | apply lsC | apply vIc | apply vBc | apply vSc | apply vLc | apply mapC | apply hdI | apply Ec_toSyntaxSLa | apply Sc_toSyntaxSLa | apply EW0c_toSyntaxSLa)
  all_goals (try simp only [std] at *)
  all_goals (try (first | with_reducible apply ih | (simp only [<- List.map_append]; first | with_reducible apply ih)))
  all_goals (try (first | with_reducible rfl | omega | assumption | exact dT ‹_› | exact dF ‹_› | ((first | refine rowGet ?_ | refine getC ?_ rfl); (first | omega | (simp only [std]; omega) | grind)) | (refine fill_step ?_ ?_; (first | omega | (simp only [std]; omega) | grind); (first | rfl | exact (Row.eq _).trans rfl)) | (refine fill_init ?_; (first | rfl | exact (Row.eq _).trans rfl)) | (show (_ : St) = _; rfl) | grind [snocI, snocS, rowSnoc]))
theorem run_c_toSyntax_s (x : Syntax) : aexec Tryz.prog (Tryz.f31.body.getD .skip) (entry [] [syntaxA x] 22) [.call [Mode.rd] [Ob.arr true 1 (List.map intC
 (Syntax.scopes x))] (AV.sv (SV.one (AC.ref 0))), .call [Mode.rd] [Ob.arr true 5 (List.map syntaxC (Syntax.items x))] (AV.sv (SV.one (AC.ref 0))), .fin [3, 4]] (finK
 Tryz.prog [ResultVar.cell 2 66] (syntaxO x) (AV.sv (syntaxR x 0))) = (P_c_toIntS (Syntax.scopes x) /\ P_c_toSyntaxS (Syntax.items x) /\ ObsEq [Ob.arr true 1 (List.map intC
 (Syntax.scopes x)), Ob.arr true 5 (List.map syntaxC (Syntax.items x))] [Ob.arr true 1 (List.map intC (Syntax.scopes x)), Ob.arr true 5 (List.map syntaxC (Syntax.items x))] /\ AV.sv
 (SV.agg [vI (Syntax.kind x), vI (Syntax.number x), vS (Syntax.text x), AC.ref 0, AC.ref 1]) = AV.sv (SV.agg [vI (Syntax.kind x), vI (Syntax.number x), vS (Syntax.text x), AC.ref
 0, AC.ref 1])) := by kernel_rfl
theorem c_toSyntax_s (x : Syntax) (h : wY x <= 1048576) (ih : ∀ z ∈ x.items, ∀ (h : wY z <= 1048576), P_c_toSyntax z)  : P_c_toSyntax x := by
  refine CallOK.ofRun wide (run_c_toSyntax_s x) Tryz.call31 Tryz.func31 rfl rfl rfl ?_
  with_reducible repeat' (first | apply And.intro | exact flatI | exact flatS | exact rowLens | exact ih | (intro; skip) | apply obsN | apply obsC | apply obA | apply obM | apply obB | apply svA | apply tupA | apply lcA | apply lcS | apply svC | apply liC | apply lbC | apply lsC | apply vIc | apply vBc | apply vSc | apply vLc | apply mapC | apply c_toIntS | apply c_toSyntaxS | apply ih)
  all_goals (try simp only [std] at *)
  all_goals (try (first | with_reducible apply c_toIntS | with_reducible apply c_toSyntaxS | with_reducible apply ih | (simp only [<- List.map_append]; first | with_reducible apply c_toIntS | with_reducible apply c_toSyntaxS | with_reducible apply ih)))
  all_goals (try (first | with_reducible rfl | omega | assumption | exact dT ‹_› | exact dF ‹_› | ((first | refine rowGet ?_ | refine getC ?_ rfl); (first | omega | (simp only [std]; omega) | grind)) | (refine fill_step ?_ ?_; (first | omega | (simp only [std]; omega) | grind); (first | rfl | exact (Row.eq _).trans rfl)) | (refine fill_init ?_; (first | rfl | exact (Row.eq _).trans rfl)) | (show (_ : St) = _; rfl) | grind [wY_eq, wS, snocI, snocS, rowSnoc]))
theorem c_toSyntax (x : Syntax) : ∀ (h : wY x <= 1048576), P_c_toSyntax x := Syntax.ind (P := fun x => ∀ (h : wY x <= 1048576), P_c_toSyntax x) (fun x ih h => c_toSyntax_s x h ih) x
abbrev P_c_toBinding (x : Binding) : Prop := CallOK Tryz.prog 96 [] [bindingA x] (bindingO x) (.sv (bindingR x 0))
theorem run_c_toBinding (x : Binding) : aexec Tryz.prog (Tryz.f96.body.getD .skip) (entry [] [bindingA x] 18) [.call [Mode.rd] [Ob.arr true 1 (List.map intC
 (Binding.scopes x))] (AV.sv (SV.one (AC.ref 0))), .fin [3]] (finK Tryz.prog [ResultVar.cell 2 134] (bindingO x) (AV.sv (bindingR x 0))) = (P_c_toIntS (Binding.scopes x) /\ ObsEq
 [Ob.arr true 1 (List.map intC (Binding.scopes x))] [Ob.arr true 1 (List.map intC (Binding.scopes x))] /\ AV.sv (SV.agg [vS (Binding.text x), AC.ref 0, vI (Binding.kind x), vI
 (Binding.number x)]) = AV.sv (SV.agg [vS (Binding.text x), AC.ref 0, vI (Binding.kind x), vI (Binding.number x)])) := by kernel_rfl
theorem c_toBinding (x : Binding) (h : wB x <= 1048576)  : P_c_toBinding x := by
  refine CallOK.ofRun wide (run_c_toBinding x) Tryz.call96 Tryz.func96 rfl rfl rfl ?_
  with_reducible repeat' (first | apply And.intro | exact flatI | exact flatS | exact rowLens | (intro; skip) | apply obsN | apply obsC | apply obA | apply obM | apply obB | apply svA | apply tupA | apply lcA | apply lcS | apply svC | apply liC | apply lbC | apply lsC | apply vIc | apply vBc | apply vSc | apply vLc | apply mapC | apply c_toIntS)
  all_goals (try simp only [std] at *)
  all_goals (try (first | with_reducible apply c_toIntS | (simp only [<- List.map_append]; first | with_reducible apply c_toIntS)))
  all_goals (try (first | with_reducible rfl | omega | assumption | exact dT ‹_› | exact dF ‹_› | ((first | refine rowGet ?_ | refine getC ?_ rfl); (first | omega | (simp only [std]; omega) | grind)) | (refine fill_step ?_ ?_; (first | omega | (simp only [std]; omega) | grind); (first | rfl | exact (Row.eq _).trans rfl)) | (refine fill_init ?_; (first | rfl | exact (Row.eq _).trans rfl)) | (show (_ : St) = _; rfl) | grind [wB_eq, wS, snocI, snocS, rowSnoc]))
abbrev P_c_toBindingS (L : List Binding) : Prop := CallOK Tryz.prog 29 [] [ll (L.map bindingC)] [.arr true 4 (L.map bindingC)] (.sv (.one (.ref 0)))
def Tc_toBindingSLa (L : List Binding) (x0 : SV) (x1 : Ob) : St := St.mk (regsOf 23 [(0, AV.sv (ll (List.map bindingC L))), (3, AV.sv (SV.one (AC.ref 0))), (4, AV.sv x0)]) [x1] 0 
def Lc_toBindingSLa (L : List Binding) (k : Nat) : St := Tc_toBindingSLa L (li (k : Int)) (Ob.arr true 4 (List.map bindingC (fillTo L k))) 
abbrev Ic_toBindingSLa (L : List Binding) : Nat -> St -> Prop := Head (Lc_toBindingSLa L) (fun k => k <= List.length L /\ List.length L <= 9223372036854775807) fun k => List.length L - k 
def W0c_toBindingSLa (L : List Binding) (x0 : Ob) : St := St.mk (regsOf 23 [(3, AV.sv (SV.one (AC.ref 0)))]) [x0] 0 
def Yc_toBindingSLa (L : List Binding) : List (Prop × AEx × St) := [(True, AEx.exit 0, W0c_toBindingSLa L (Ob.arr true 4 (List.map bindingC L)))]

theorem Ec_toBindingSLa {L : List Binding} {k : Nat} {x0 : SV} {x1 : Ob} (h0 : x0 = (li (k : Int))) (h1 : x1 = (Ob.arr true 4 (List.map bindingC (fillTo L k)))) : Tc_toBindingSLa
 L x0 x1 = Lc_toBindingSLa L k := by
  rw [h0, h1]
  rfl
theorem EW0c_toBindingSLa {L : List Binding} {x0 y0 : Ob} (h0 : x0 = y0) : W0c_toBindingSLa L x0 = W0c_toBindingSLa L y0 := by rw [h0]
theorem run_c_toBindingSLa (L : List Binding) (k : Nat) : aexec Tryz.prog (loopAt Tryz.f29 0) (Lc_toBindingSLa L k) [.br [.cells (bindingF (List.getD L k default)), .call
 [Mode.rd] (bindingO (List.getD L k default)) (AV.sv (bindingR (List.getD L k default) 0)), .cells (bindingF (List.getD (fillTo L k) (Int.toNat (k : Int)) default)), .ghost
 (.sel [0] [0, 3, 4]), .goto (List.length L - (k + 1)) (Lc_toBindingSLa L (k + 1))] [.ghost (.sel [0] [3]), .out 0]] (loopK (Ic_toBindingSLa L) (Yc_toBindingSLa
 L) (List.length L - k)) = (List.length (List.map bindingC L) <= 9223372036854775807 -> (decide ((k : Int) < (↑(List.length (List.map bindingC L)) : Int)) = true -> (0 <= (k : Int) /\
 (List.map bindingC L)[Int.toNat (k : Int)]? = some (bindingF (List.getD L k default))) /\ P_c_toBinding (List.getD L k default) /\ (0 <= (k : Int) /\ Int.toNat (k : Int) <
 List.length (List.map bindingC (fillTo L k))) /\ (List.map bindingC (fillTo L k))[Int.toNat (k : Int)]? = some (bindingF (List.getD (fillTo L k) (Int.toNat (k : Int)) default)) /\
 rng .i64 ((k : Int) + 1) /\ List.length L - (k + 1) < List.length L - k /\ Tc_toBindingSLa L (li ((k : Int) + 1)) (Ob.arr true 4 (List.set (List.map bindingC (fillTo L k))
 (Int.toNat (k : Int)) (bindingF (List.getD L k default)))) = Lc_toBindingSLa L (k + 1) /\ Ic_toBindingSLa L (List.length L - (k + 1)) (Lc_toBindingSLa L (k + 1))) /\ (decide ((↑k :
 Int) < (↑(List.length (List.map bindingC L)) : Int)) = false -> True /\ W0c_toBindingSLa L (Ob.arr true 4 (List.map bindingC (fillTo L k))) = W0c_toBindingSLa L (Ob.arr true 4
 (List.map bindingC L)))) := by kernel_rfl
theorem Sc_toBindingSLa (L : List Binding) (h : List.length L + sumBy wB L <= 1048576)  : LoopSem Tryz.prog (loopAt Tryz.f29 0) (Ic_toBindingSLa L) (Yc_toBindingSLa L) := by
  refine LoopSem.ofHead wide fun k h => ⟨_, _, run_c_toBindingSLa L k, ?_⟩
  with_reducible repeat' (first | apply And.intro | exact flatI | exact flatS | exact rowLens | (intro; skip) | apply obsN | apply obsC | apply obA | apply obM | apply obB | apply svA | apply tupA | apply lcA | apply lcS | apply svC | apply liC | apply lbC | apply lsC | apply vIc | apply vBc | apply vSc | apply vLc | apply mapC | apply hdI | apply Ec_toBindingSLa | apply EW0c_toBindingSLa | apply c_toBinding)
  all_goals (try simp only [std] at *)
  all_goals (try (first | with_reducible apply c_toBinding | (simp only [<- List.map_append]; first | with_reducible apply c_toBinding)))
  all_goals (try (first | with_reducible rfl | omega | assumption | exact dT ‹_› | exact dF ‹_› | ((first | refine rowGet ?_ | refine getC ?_ rfl); (first | omega | (simp only [std]; omega) | grind)) | (refine fill_step ?_ ?_; (first | omega | (simp only [std]; omega) | grind); (first | rfl | exact (Row.eq _).trans rfl)) | (refine fill_init ?_; (first | rfl | exact (Row.eq _).trans rfl)) | (show (_ : St) = _; rfl) | grind [fillTo_all, getD_mem', sumBy_mem, snocI, snocS, rowSnoc]))
theorem run_c_toBindingS (L : List Binding) : aexec Tryz.prog (Tryz.f29.body.getD .skip) (entry [] [ll (List.map bindingC L)] 23) [.ghost (.sel [0] [0, 3,
 4]), .loop (List.length L - 0) (Lc_toBindingSLa L 0) (Ic_toBindingSLa L) [(True, AEx.exit 0, W0c_toBindingSLa L (Ob.arr true 4 (List.map bindingC L)), [.fin [0]])]] (finK
 Tryz.prog [ResultVar.tmp 2] [Ob.arr true 4 (List.map bindingC L)] (AV.sv (SV.one (AC.ref 0)))) = (List.length (List.map bindingC L) <= 9223372036854775807 -> (0 <= (↑(List.length
 (List.map bindingC L)) : Int) /\ 56 * Int.toNat (↑(List.length (List.map bindingC L)) : Int) <= 281474976710656) /\ Tc_toBindingSLa L (li 0) (Ob.arr true 4 (List.replicate (Int.toNat
 (↑(List.length (List.map bindingC L)) : Int)) [cS (ByteArray.mk #[]), Cell.list [], cI 0, cI 0])) = Lc_toBindingSLa L 0 /\ Ic_toBindingSLa L (List.length L - 0) (Lc_toBindingSLa L
 0) /\ LoopSem Tryz.prog (loopAt Tryz.f29 0) (Ic_toBindingSLa L) (Yc_toBindingSLa L) /\ (True -> ObsEq [Ob.arr true 4 (List.map bindingC L)] [Ob.arr true 4 (List.map bindingC L)] /\
 AV.sv (SV.one (AC.ref 0)) = AV.sv (SV.one (AC.ref 0))) /\ True) := by kernel_rfl
theorem c_toBindingS (L : List Binding) (h : L.length + sumBy wB L <= 1048576)  : P_c_toBindingS L := by
  refine CallOK.ofRun wide (run_c_toBindingS L) Tryz.call29 Tryz.func29 rfl rfl rfl ?_
  with_reducible repeat' (first | apply And.intro | exact flatI | exact flatS | exact rowLens | (intro; skip) | apply obsN | apply obsC | apply obA | apply obM | apply obB | apply svA | apply tupA | apply lcA | apply lcS | apply svC | apply liC | apply lbC | apply lsC | apply vIc | apply vBc | apply vSc | apply vLc | apply mapC | apply hdI | apply Ec_toBindingSLa | apply Sc_toBindingSLa | apply EW0c_toBindingSLa | apply c_toBinding)
  all_goals (try simp only [std] at *)
  all_goals (try (first | with_reducible apply c_toBinding | (simp only [<- List.map_append]; first | with_reducible apply c_toBinding)))
  all_goals (try (first | with_reducible rfl | omega | assumption | exact dT ‹_› | exact dF ‹_› | ((first | refine rowGet ?_ | refine getC ?_ rfl); (first | omega | (simp only [std]; omega) | grind)) | (refine fill_step ?_ ?_; (first | omega | (simp only [std]; omega) | grind); (first | rfl | exact (Row.eq _).trans rfl)) | (refine fill_init ?_; (first | rfl | exact (Row.eq _).trans rfl)) | (show (_ : St) = _; rfl) | grind [snocI, snocS, rowSnoc]))
abbrev P_c_toRules (x : Rules) : Prop := CallOK Tryz.prog 55 [] [rulesA x] (rulesO x) (.sv (rulesR x 0))
theorem run_c_toRules (x : Rules) : aexec Tryz.prog (Tryz.f55.body.getD .skip) (entry [] [rulesA x] 17) [.call [Mode.rd] [Ob.arr true 5 (List.map syntaxC
 (Rules.literals x))] (AV.sv (SV.one (AC.ref 0))), .call [Mode.rd] [Ob.arr true 5 (List.map syntaxC (Rules.patterns x))] (AV.sv (SV.one (AC.ref 0))), .call [Mode.rd] [Ob.arr
 true 5 (List.map syntaxC (Rules.templates x))] (AV.sv (SV.one (AC.ref 0))), .fin [3, 4, 5]] (finK Tryz.prog [ResultVar.cell 2 78] (rulesO x) (AV.sv (rulesR x 0))) =
 (P_c_toSyntaxS (Rules.literals x) /\ P_c_toSyntaxS (Rules.patterns x) /\ P_c_toSyntaxS (Rules.templates x) /\ ObsEq [Ob.arr true 5 (List.map syntaxC (Rules.literals x)), Ob.arr true
 5 (List.map syntaxC (Rules.patterns x)), Ob.arr true 5 (List.map syntaxC (Rules.templates x))] [Ob.arr true 5 (List.map syntaxC (Rules.literals x)), Ob.arr true 5 (List.map
 syntaxC (Rules.patterns x)), Ob.arr true 5 (List.map syntaxC (Rules.templates x))] /\ AV.sv (SV.agg [AC.ref 0, AC.ref 1, AC.ref 2]) = AV.sv (SV.agg [AC.ref 0, AC.ref 1, AC.ref 2]))
 := by kernel_rfl
theorem c_toRules (x : Rules) (h : wR x <= 1048576)  : P_c_toRules x := by
  refine CallOK.ofRun wide (run_c_toRules x) Tryz.call55 Tryz.func55 rfl rfl rfl ?_
  with_reducible repeat' (first | apply And.intro | exact flatI | exact flatS | exact rowLens | (intro; skip) | apply obsN | apply obsC | apply obA | apply obM | apply obB | apply svA | apply tupA | apply lcA | apply lcS | apply svC | apply liC | apply lbC | apply lsC | apply vIc | apply vBc | apply vSc | apply vLc | apply mapC | apply c_toSyntaxS | apply c_toSyntax)
  all_goals (try simp only [std] at *)
  all_goals (try (first | with_reducible apply c_toSyntaxS | with_reducible apply c_toSyntax | (simp only [<- List.map_append]; first | with_reducible apply c_toSyntaxS | with_reducible apply c_toSyntax)))
  all_goals (try (first | with_reducible rfl | omega | assumption | exact dT ‹_› | exact dF ‹_› | ((first | refine rowGet ?_ | refine getC ?_ rfl); (first | omega | (simp only [std]; omega) | grind)) | (refine fill_step ?_ ?_; (first | omega | (simp only [std]; omega) | grind); (first | rfl | exact (Row.eq _).trans rfl)) | (refine fill_init ?_; (first | rfl | exact (Row.eq _).trans rfl)) | (show (_ : St) = _; rfl) | grind [wR_eq, wS, snocI, snocS, rowSnoc]))
abbrev P_c_toRulesS (L : List Rules) : Prop := CallOK Tryz.prog 86 [] [ll (L.map rulesC)] [.arr true 3 (L.map rulesC)] (.sv (.one (.ref 0)))
def Tc_toRulesSLa (L : List Rules) (x0 : SV) (x1 : Ob) : St := St.mk (regsOf 23 [(0, AV.sv (ll (List.map rulesC L))), (3, AV.sv (SV.one (AC.ref 0))), (4, AV.sv x0)]) [x1] 0 
def Lc_toRulesSLa (L : List Rules) (k : Nat) : St := Tc_toRulesSLa L (li (k : Int)) (Ob.arr true 3 (List.map rulesC (fillTo L k))) 
abbrev Ic_toRulesSLa (L : List Rules) : Nat -> St -> Prop := Head (Lc_toRulesSLa L) (fun k => k <= List.length L /\ List.length L <= 9223372036854775807) fun k => List.length L - k 
def W0c_toRulesSLa (L : List Rules) (x0 : Ob) : St := St.mk (regsOf 23 [(3, AV.sv (SV.one (AC.ref 0)))]) [x0] 0 
def Yc_toRulesSLa (L : List Rules) : List (Prop × AEx × St) := [(True, AEx.exit 0, W0c_toRulesSLa L (Ob.arr true 3 (List.map rulesC L)))]

theorem Ec_toRulesSLa {L : List Rules} {k : Nat} {x0 : SV} {x1 : Ob} (h0 : x0 = (li (k : Int))) (h1 : x1 = (Ob.arr true 3 (List.map rulesC (fillTo L k)))) : Tc_toRulesSLa L x0 x1
 = Lc_toRulesSLa L k := by
  rw [h0, h1]
  rfl
theorem EW0c_toRulesSLa {L : List Rules} {x0 y0 : Ob} (h0 : x0 = y0) : W0c_toRulesSLa L x0 = W0c_toRulesSLa L y0 := by rw [h0]
theorem run_c_toRulesSLa (L : List Rules) (k : Nat) : aexec Tryz.prog (loopAt Tryz.f86 0) (Lc_toRulesSLa L k) [.br [.cells (rulesF (List.getD L k default)), .call
 [Mode.rd] (rulesO (List.getD L k default)) (AV.sv (rulesR (List.getD L k default) 0)), .cells (rulesF (List.getD (fillTo L k) (Int.toNat (k : Int)) default)), .ghost
 (.sel [0] [0, 3, 4]), .goto (List.length L - (k + 1)) (Lc_toRulesSLa L (k + 1))] [.ghost (.sel [0] [3]), .out 0]] (loopK (Ic_toRulesSLa L) (Yc_toRulesSLa L)
 (List.length L - k)) = (List.length (List.map rulesC L) <= 9223372036854775807 -> (decide ((k : Int) < (↑(List.length (List.map rulesC L)) : Int)) = true -> (0 <= (k : Int) /\
 (List.map rulesC L)[Int.toNat (k : Int)]? = some (rulesF (List.getD L k default))) /\ P_c_toRules (List.getD L k default) /\ (0 <= (k : Int) /\ Int.toNat (k : Int) < List.length
 (List.map rulesC (fillTo L k))) /\ (List.map rulesC (fillTo L k))[Int.toNat (k : Int)]? = some (rulesF (List.getD (fillTo L k) (Int.toNat (k : Int)) default)) /\ rng .i64
 ((k : Int) + 1) /\ List.length L - (k + 1) < List.length L - k /\ Tc_toRulesSLa L (li ((k : Int) + 1)) (Ob.arr true 3 (List.set (List.map rulesC (fillTo L k)) (Int.toNat (↑k :
 Int)) (rulesF (List.getD L k default)))) = Lc_toRulesSLa L (k + 1) /\ Ic_toRulesSLa L (List.length L - (k + 1)) (Lc_toRulesSLa L (k + 1))) /\ (decide ((k : Int) < (↑(List.length
 (List.map rulesC L)) : Int)) = false -> True /\ W0c_toRulesSLa L (Ob.arr true 3 (List.map rulesC (fillTo L k))) = W0c_toRulesSLa L (Ob.arr true 3 (List.map rulesC L)))) := by
 kernel_rfl
theorem Sc_toRulesSLa (L : List Rules) (h : List.length L + sumBy wR L <= 1048576)  : LoopSem Tryz.prog (loopAt Tryz.f86 0) (Ic_toRulesSLa L) (Yc_toRulesSLa L) := by
  refine LoopSem.ofHead wide fun k h => ⟨_, _, run_c_toRulesSLa L k, ?_⟩
  with_reducible repeat' (first | apply And.intro | exact flatI | exact flatS | exact rowLens | (intro; skip) | apply obsN | apply obsC | apply obA | apply obM | apply obB | apply svA | apply tupA | apply lcA | apply lcS | apply svC | apply liC | apply lbC | apply lsC | apply vIc | apply vBc | apply vSc | apply vLc | apply mapC | apply hdI | apply Ec_toRulesSLa | apply EW0c_toRulesSLa | apply c_toRules)
  all_goals (try simp only [std] at *)
  all_goals (try (first | with_reducible apply c_toRules | (simp only [<- List.map_append]; first | with_reducible apply c_toRules)))
  all_goals (try (first | with_reducible rfl | omega | assumption | exact dT ‹_› | exact dF ‹_› | ((first | refine rowGet ?_ | refine getC ?_ rfl); (first | omega | (simp only [std]; omega) | grind)) | (refine fill_step ?_ ?_; (first | omega | (simp only [std]; omega) | grind); (first | rfl | exact (Row.eq _).trans rfl)) | (refine fill_init ?_; (first | rfl | exact (Row.eq _).trans rfl)) | (show (_ : St) = _; rfl) | grind [fillTo_all, getD_mem', sumBy_mem, snocI, snocS, rowSnoc]))
theorem run_c_toRulesS (L : List Rules) : aexec Tryz.prog (Tryz.f86.body.getD .skip) (entry [] [ll (List.map rulesC L)] 23) [.ghost (.sel [0] [0, 3, 4]),
 .loop (List.length L - 0) (Lc_toRulesSLa L 0) (Ic_toRulesSLa L) [(True, AEx.exit 0, W0c_toRulesSLa L (Ob.arr true 3 (List.map rulesC L)), [.fin [0]])]] (finK Tryz.prog
 [ResultVar.tmp 2] [Ob.arr true 3 (List.map rulesC L)] (AV.sv (SV.one (AC.ref 0)))) = (List.length (List.map rulesC L) <= 9223372036854775807 -> (0 <= (↑(List.length (List.map rulesC
 L)) : Int) /\ 72 * Int.toNat (↑(List.length (List.map rulesC L)) : Int) <= 281474976710656) /\ Tc_toRulesSLa L (li 0) (Ob.arr true 3 (List.replicate (Int.toNat (↑(List.length
 (List.map rulesC L)) : Int)) [Cell.list [], Cell.list [], Cell.list []])) = Lc_toRulesSLa L 0 /\ Ic_toRulesSLa L (List.length L - 0) (Lc_toRulesSLa L 0) /\ LoopSem Tryz.prog (loopAt
 Tryz.f86 0) (Ic_toRulesSLa L) (Yc_toRulesSLa L) /\ (True -> ObsEq [Ob.arr true 3 (List.map rulesC L)] [Ob.arr true 3 (List.map rulesC L)] /\ AV.sv (SV.one (AC.ref 0)) = AV.sv (SV.one
 (AC.ref 0))) /\ True) := by kernel_rfl
theorem c_toRulesS (L : List Rules) (h : L.length + sumBy wR L <= 1048576)  : P_c_toRulesS L := by
  refine CallOK.ofRun wide (run_c_toRulesS L) Tryz.call86 Tryz.func86 rfl rfl rfl ?_
  with_reducible repeat' (first | apply And.intro | exact flatI | exact flatS | exact rowLens | (intro; skip) | apply obsN | apply obsC | apply obA | apply obM | apply obB | apply svA | apply tupA | apply lcA | apply lcS | apply svC | apply liC | apply lbC | apply lsC | apply vIc | apply vBc | apply vSc | apply vLc | apply mapC | apply hdI | apply Ec_toRulesSLa | apply Sc_toRulesSLa | apply EW0c_toRulesSLa | apply c_toRules)
  all_goals (try simp only [std] at *)
  all_goals (try (first | with_reducible apply c_toRules | (simp only [<- List.map_append]; first | with_reducible apply c_toRules)))
  all_goals (try (first | with_reducible rfl | omega | assumption | exact dT ‹_› | exact dF ‹_› | ((first | refine rowGet ?_ | refine getC ?_ rfl); (first | omega | (simp only [std]; omega) | grind)) | (refine fill_step ?_ ?_; (first | omega | (simp only [std]; omega) | grind); (first | rfl | exact (Row.eq _).trans rfl)) | (refine fill_init ?_; (first | rfl | exact (Row.eq _).trans rfl)) | (show (_ : St) = _; rfl) | grind [snocI, snocS, rowSnoc]))
abbrev P_c_toExpander (x : Expander) : Prop := CallOK Tryz.prog 22 [] [expanderA x] (expanderO x) (.sv (expanderR x 0))
theorem run_c_toExpander (x : Expander) : aexec Tryz.prog (Tryz.f22.body.getD .skip) (entry [] [expanderA x] 22) [.call [Mode.rd] [Ob.arr true 4 (List.map
 bindingC (Expander.bindings x))] (AV.sv (SV.one (AC.ref 0))), .call [Mode.rd] [Ob.arr true 3 (List.map rulesC (Expander.macros x))] (AV.sv (SV.one (AC.ref 0))), .fin [3, 4]]
 (finK Tryz.prog [ResultVar.cell 2 49] (expanderO x) (AV.sv (expanderR x 0))) = (P_c_toBindingS (Expander.bindings x) /\ P_c_toRulesS (Expander.macros x) /\ ObsEq [Ob.arr true 4
 (List.map bindingC (Expander.bindings x)), Ob.arr true 3 (List.map rulesC (Expander.macros x))] [Ob.arr true 4 (List.map bindingC (Expander.bindings x)), Ob.arr true 3 (List.map
 rulesC (Expander.macros x))] /\ AV.sv (SV.agg [AC.ref 0, AC.ref 1, vI (Expander.scope x), vI (Expander.vari x), vI (Expander.steps x)]) = AV.sv (SV.agg [AC.ref 0, AC.ref 1, vI
 (Expander.scope x), vI (Expander.vari x), vI (Expander.steps x)])) := by kernel_rfl
theorem c_toExpander (x : Expander) (h : wX x <= 1048576)  : P_c_toExpander x := by
  refine CallOK.ofRun wide (run_c_toExpander x) Tryz.call22 Tryz.func22 rfl rfl rfl ?_
  with_reducible repeat' (first | apply And.intro | exact flatI | exact flatS | exact rowLens | (intro; skip) | apply obsN | apply obsC | apply obA | apply obM | apply obB | apply svA | apply tupA | apply lcA | apply lcS | apply svC | apply liC | apply lbC | apply lsC | apply vIc | apply vBc | apply vSc | apply vLc | apply mapC | apply c_toBindingS | apply c_toRulesS)
  all_goals (try simp only [std] at *)
  all_goals (try (first | with_reducible apply c_toBindingS | with_reducible apply c_toRulesS | (simp only [<- List.map_append]; first | with_reducible apply c_toBindingS | with_reducible apply c_toRulesS)))
  all_goals (try (first | with_reducible rfl | omega | assumption | exact dT ‹_› | exact dF ‹_› | ((first | refine rowGet ?_ | refine getC ?_ rfl); (first | omega | (simp only [std]; omega) | grind)) | (refine fill_step ?_ ?_; (first | omega | (simp only [std]; omega) | grind); (first | rfl | exact (Row.eq _).trans rfl)) | (refine fill_init ?_; (first | rfl | exact (Row.eq _).trans rfl)) | (show (_ : St) = _; rfl) | grind [wX_eq, wS, snocI, snocS, rowSnoc]))
end Go.Proofs.YtegbadciefljcaaGreat
end
section
namespace Go.Proofs.YtegbadciefljcaaGreat
open Go Go.Proofs.YtegbadciefljcaaGreat.Ab
set_option linter.unusedVariables false
set_option linter.unusedSimpArgs false
set_option maxHeartbeats 4000000
abbrev P_c_eqIntS (A : List Int) (B : List Int) : Prop := CallOK Tryz.prog 69 [] [ll (A.map intC), ll (B.map intC)] [] (.sv (lb (decide (A = B))))
def Tc_eqIntSLa (A : List Int) (B : List Int) (x0 : SV) : St := St.mk (regsOf 26 [(0, AV.sv (ll (List.map intC A))), (1, AV.sv (ll (List.map intC B))), (5, AV.sv x0)]) [] 0 
def Lc_eqIntSLa (A : List Int) (B : List Int) (k : Nat) : St := Tc_eqIntSLa A B (li (k : Int)) 
abbrev Ic_eqIntSLa (A : List Int) (B : List Int) : Nat -> St -> Prop := Head (Lc_eqIntSLa A B) (fun k => k <= List.length A /\ List.length A <= 9223372036854775807 /\ List.length A =
 List.length B /\ List.take k A = List.take k B) fun k => List.length A - k 
def W0c_eqIntSLa (A : List Int) (B : List Int) : St := St.mk (regsOf 26 []) [] 0 
def W1c_eqIntSLa (A : List Int) (B : List Int) (x0 : SV) : St := St.mk (regsOf 26 [(4, AV.sv x0)]) [] 0 
def Yc_eqIntSLa (A : List Int) (B : List Int) : List (Prop × AEx × St) := [(A = B, AEx.exit 0, W0c_eqIntSLa A B), (A ≠ B, AEx.ret, W1c_eqIntSLa A B (lb false))]

theorem Ec_eqIntSLa {A : List Int} {B : List Int} {k : Nat} {x0 : SV} (h0 : x0 = (li (k : Int))) : Tc_eqIntSLa A B x0 = Lc_eqIntSLa A B k := by
  rw [h0]
  rfl
theorem EW1c_eqIntSLa {A : List Int} {B : List Int} {x0 y0 : SV} (h0 : x0 = y0) : W1c_eqIntSLa A B x0 = W1c_eqIntSLa A B y0 := by rw [h0]
theorem run_c_eqIntSLa (A : List Int) (B : List Int) (k : Nat) : aexec Tryz.prog (loopAt Tryz.f69 0) (Lc_eqIntSLa A B k) [.br [.draw [], .cells (intC (List.getD A k
 default)), .cells (intC (List.getD B k default)), .br [.ghost (.sel [] [4]), .out 1] [.ghost (.sel [] [0, 1, 5]), .goto (List.length A - (k + 1))
 (Lc_eqIntSLa A B (k + 1))]] [.ghost (.sel [] []), .out 0]] (loopK (Ic_eqIntSLa A B) (Yc_eqIntSLa A B) (List.length A - k)) = (List.length (List.map intC A) <=
 9223372036854775807 -> (decide ((k : Int) < (↑(List.length (List.map intC A)) : Int)) = true -> (0 <= (k : Int) /\ (List.map intC A)[Int.toNat (k : Int)]? = some [cI (List.getD A k
 0)]) /\ (0 <= (k : Int) /\ (List.map intC B)[Int.toNat (k : Int)]? = some [cI (List.getD B k 0)]) /\ (decide (List.getD A k (0 : Int) ≠ List.getD B k 0) = true -> A ≠ B /\
 W1c_eqIntSLa A B (lb false) = W1c_eqIntSLa A B (lb false)) /\ (decide (List.getD A k (0 : Int) ≠ List.getD B k 0) = false -> rng .i64 ((k : Int) + 1) /\ List.length A - (k +
 1) < List.length A - k /\ Tc_eqIntSLa A B (li ((k : Int) + 1)) = Lc_eqIntSLa A B (k + 1) /\ Ic_eqIntSLa A B (List.length A - (k + 1)) (Lc_eqIntSLa A B (k + 1)))) /\ (decide ((↑k :
 Int) < (↑(List.length (List.map intC A)) : Int)) = false -> A = B /\ W0c_eqIntSLa A B = W0c_eqIntSLa A B)) := by kernel_rfl
theorem Sc_eqIntSLa (A : List Int) (B : List Int)  : LoopSem Tryz.prog (loopAt Tryz.f69 0) (Ic_eqIntSLa A B) (Yc_eqIntSLa A B) := by
  refine LoopSem.ofHead wide fun k h => ⟨_, _, run_c_eqIntSLa A B k, ?_⟩
  with_reducible repeat' (first | apply And.intro | exact flatI | exact flatS | exact rowLens | (intro; skip) | apply obsN | apply obsC | apply obA | apply obM | apply obB | apply svA | apply tupA | apply lcA | apply lcS | apply svC | apply liC | apply lbC | apply lsC | apply vIc | apply vBc | apply vSc | apply vLc | apply mapC | apply hdI | apply Ec_eqIntSLa | apply EW1c_eqIntSLa)
  all_goals (try simp only [std] at *)
  all_goals (try (first | with_reducible rfl | omega | assumption | exact dT ‹_› | exact dF ‹_› | ((first | refine rowGet ?_ | refine getC ?_ rfl); (first | omega | (simp only [std]; omega) | grind)) | (show (_ : St) = _; rfl) | grind [take_eq, snocI, snocS, rowSnoc]))
theorem run_c_eqIntS (A : List Int) (B : List Int) : aexec Tryz.prog (Tryz.f69.body.getD .skip) (entry [] [ll (List.map intC A), ll (List.map intC B)] 26) [.br
 [.fin []] [.ghost (.sel [] [0, 1, 5]), .loop (List.length A - 0) (Lc_eqIntSLa A B 0) (Ic_eqIntSLa A B) [(A = B, AEx.exit 0, W0c_eqIntSLa A B, [.fin []]), (A ≠ B,
 AEx.ret, W1c_eqIntSLa A B (lb false), [.fin []])]]] (finK Tryz.prog [ResultVar.tmp 4] [] (AV.sv (lb (decide (A = B))))) = (List.length (List.map intC A) <= 9223372036854775807 ->
 List.length (List.map intC B) <= 9223372036854775807 -> (decide ((↑(List.length (List.map intC A)) : Int) ≠ (↑(List.length (List.map intC B)) : Int)) = true -> ObsEq [] [] /\ AV.sv
 (lb false) = AV.sv (lb (decide (A = B)))) /\ (decide ((↑(List.length (List.map intC A)) : Int) ≠ (↑(List.length (List.map intC B)) : Int)) = false -> Tc_eqIntSLa A B (li 0) =
 Lc_eqIntSLa A B 0 /\ Ic_eqIntSLa A B (List.length A - 0) (Lc_eqIntSLa A B 0) /\ LoopSem Tryz.prog (loopAt Tryz.f69 0) (Ic_eqIntSLa A B) (Yc_eqIntSLa A B) /\ (A = B -> ObsEq [] [] /\
 AV.sv (lb true) = AV.sv (lb (decide (A = B)))) /\ ((A = B -> False) -> ObsEq [] [] /\ AV.sv (lb false) = AV.sv (lb (decide (A = B)))) /\ True)) := by kernel_rfl
theorem c_eqIntS (A B : List Int)  : P_c_eqIntS A B := by
  refine CallOK.ofRun wide (run_c_eqIntS A B) Tryz.call69 Tryz.func69 rfl rfl rfl ?_
  with_reducible repeat' (first | apply And.intro | exact flatI | exact flatS | exact rowLens | (intro; skip) | apply obsN | apply obsC | apply obA | apply obM | apply obB | apply svA | apply tupA | apply lcA | apply lcS | apply svC | apply liC | apply lbC | apply lsC | apply vIc | apply vBc | apply vSc | apply vLc | apply mapC | apply hdI | apply Ec_eqIntSLa | apply Sc_eqIntSLa | apply EW1c_eqIntSLa)
  all_goals (try simp only [std] at *)
  all_goals (try (first | with_reducible rfl | omega | assumption | exact dT ‹_› | exact dF ‹_› | ((first | refine rowGet ?_ | refine getC ?_ rfl); (first | omega | (simp only [std]; omega) | grind)) | (show (_ : St) = _; rfl) | grind [snocI, snocS, rowSnoc]))
abbrev P_c_eqSyntaxS (A : List Syntax) (B : List Syntax) : Prop := CallOK Tryz.prog 35 [] [ll (A.map syntaxC), ll (B.map syntaxC)] [] (.sv (lb (decide (A = B))))
abbrev P_c_eqSyntax (x : Syntax) (y : Syntax) : Prop := CallOK Tryz.prog 36 [] [syntaxA x, syntaxA y] [] (.sv (lb (decide (x = y))))
def Tc_eqSyntaxSLa (A : List Syntax) (B : List Syntax) (x0 : SV) : St := St.mk (regsOf 27 [(0, AV.sv (ll (List.map syntaxC A))), (1, AV.sv (ll (List.map syntaxC B))), (5, AV.sv
 x0)]) [] 0 
def Lc_eqSyntaxSLa (A : List Syntax) (B : List Syntax) (k : Nat) : St := Tc_eqSyntaxSLa A B (li (k : Int)) 
abbrev Ic_eqSyntaxSLa (A : List Syntax) (B : List Syntax) : Nat -> St -> Prop := Head (Lc_eqSyntaxSLa A B) (fun k => k <= List.length A /\ List.length A <= 9223372036854775807 /\
 List.length A = List.length B /\ List.take k A = List.take k B) fun k => List.length A - k 
def W0c_eqSyntaxSLa (A : List Syntax) (B : List Syntax) : St := St.mk (regsOf 27 []) [] 0 
def W1c_eqSyntaxSLa (A : List Syntax) (B : List Syntax) (x0 : SV) : St := St.mk (regsOf 27 [(4, AV.sv x0)]) [] 0 
def Yc_eqSyntaxSLa (A : List Syntax) (B : List Syntax) : List (Prop × AEx × St) := [(A = B, AEx.exit 0, W0c_eqSyntaxSLa A B), (A ≠ B, AEx.ret, W1c_eqSyntaxSLa A B (lb false))]

theorem Ec_eqSyntaxSLa {A : List Syntax} {B : List Syntax} {k : Nat} {x0 : SV} (h0 : x0 = (li (k : Int))) : Tc_eqSyntaxSLa A B x0 = Lc_eqSyntaxSLa A B k := by
  rw [h0]
  rfl
theorem EW1c_eqSyntaxSLa {A : List Syntax} {B : List Syntax} {x0 y0 : SV} (h0 : x0 = y0) : W1c_eqSyntaxSLa A B x0 = W1c_eqSyntaxSLa A B y0 := by rw [h0]
theorem run_c_eqSyntaxSLa (A : List Syntax) (B : List Syntax) (k : Nat) : aexec Tryz.prog (loopAt Tryz.f35 0) (Lc_eqSyntaxSLa A B k) [.br [.draw [], .cells (syntaxF
 (List.getD A k default)), .cells (syntaxF (List.getD B k default)), .call [Mode.rd, Mode.rd] [] (AV.sv (lb (decide (List.getD A k default = List.getD B k default)))), .br
 [.ghost (.sel [] [4]), .out 1] [.ghost (.sel [] [0, 1, 5]), .goto (List.length A - (k + 1)) (Lc_eqSyntaxSLa A B (k + 1))]] [.ghost (.sel [] []),
 .out 0]] (loopK (Ic_eqSyntaxSLa A B) (Yc_eqSyntaxSLa A B) (List.length A - k)) = (List.length (List.map syntaxC A) <= 9223372036854775807 -> (decide ((k : Int) < (↑(List.length
 (List.map syntaxC A)) : Int)) = true -> (0 <= (k : Int) /\ (List.map syntaxC A)[Int.toNat (k : Int)]? = some (syntaxF (List.getD A k default))) /\ (0 <= (k : Int) /\ (List.map
 syntaxC B)[Int.toNat (k : Int)]? = some (syntaxF (List.getD B k default))) /\ P_c_eqSyntax (List.getD A k default) (List.getD B k default) /\ ((!decide (List.getD A k default =
 List.getD B k default)) = true -> A ≠ B /\ W1c_eqSyntaxSLa A B (lb false) = W1c_eqSyntaxSLa A B (lb false)) /\ ((!decide (List.getD A k default = List.getD B k default)) = false ->
 rng .i64 ((k : Int) + 1) /\ List.length A - (k + 1) < List.length A - k /\ Tc_eqSyntaxSLa A B (li ((k : Int) + 1)) = Lc_eqSyntaxSLa A B (k + 1) /\ Ic_eqSyntaxSLa A B
 (List.length A - (k + 1)) (Lc_eqSyntaxSLa A B (k + 1)))) /\ (decide ((k : Int) < (↑(List.length (List.map syntaxC A)) : Int)) = false -> A = B /\ W0c_eqSyntaxSLa A B =
 W0c_eqSyntaxSLa A B)) := by kernel_rfl
theorem Sc_eqSyntaxSLa (A : List Syntax) (B : List Syntax) (ih : ∀ (x : Syntax), x ∈ A -> ∀ (y : Syntax), P_c_eqSyntax x y)  : LoopSem Tryz.prog (loopAt Tryz.f35 0) (Ic_eqSyntaxSLa
 A B) (Yc_eqSyntaxSLa A B) := by
  refine LoopSem.ofHead wide fun k h => ⟨_, _, run_c_eqSyntaxSLa A B k, ?_⟩
  with_reducible repeat' (first | apply And.intro | exact flatI | exact flatS | exact rowLens | exact ih | (intro; skip) | apply obsN | apply obsC | apply obA | apply obM | apply obB | apply svA | apply tupA | apply lcA | apply lcS | apply svC | apply liC | apply lbC | apply lsC | apply vIc | apply vBc | apply vSc | apply vLc | apply mapC | apply hdI | apply Ec_eqSyntaxSLa | apply EW1c_eqSyntaxSLa | apply ih)
  all_goals (try simp only [std] at *)
  all_goals (try (first | with_reducible apply ih | (simp only [<- List.map_append]; first | with_reducible apply ih)))
  all_goals (try (first | with_reducible rfl | omega | assumption | exact dT ‹_› | exact dF ‹_› | ((first | refine rowGet ?_ | refine getC ?_ rfl); (first | omega | (simp only [std]; omega) | grind)) | (show (_ : St) = _; rfl) | grind [take_eq, getD_mem', snocI, snocS, rowSnoc]))
theorem run_c_eqSyntaxS (A : List Syntax) (B : List Syntax) : aexec Tryz.prog (Tryz.f35.body.getD .skip) (entry [] [ll (List.map syntaxC A), ll (List.map syntaxC
 B)] 27) [.br [.fin []] [.ghost (.sel [] [0, 1, 5]), .loop (List.length A - 0) (Lc_eqSyntaxSLa A B 0) (Ic_eqSyntaxSLa A B) [(A = B, AEx.exit 0, W0c_eqSyntaxSLa A
 B, [.fin []]), (A ≠ B, AEx.ret, W1c_eqSyntaxSLa A B (lb false), [.fin []])]]] (finK Tryz.prog [ResultVar.tmp 4] [] (AV.sv (lb (decide (A = B))))) = (List.length (List.map
 syntaxC A) <= 9223372036854775807 -> List.length (List.map syntaxC B) <= 9223372036854775807 -> (decide ((↑(List.length (List.map syntaxC A)) : Int) ≠ (↑(List.length (List.map syntaxC
 B)) : Int)) = true -> ObsEq [] [] /\ AV.sv (lb false) = AV.sv (lb (decide (A = B)))) /\ (decide ((↑(List.length (List.map syntaxC A)) : Int) ≠ (↑(List.length (List.map syntaxC B)) :
 Int)) = false -> Tc_eqSyntaxSLa A B (li 0) = Lc_eqSyntaxSLa A B 0 /\ Ic_eqSyntaxSLa A B (List.length A - 0) (Lc_eqSyntaxSLa A B 0) /\ LoopSem Tryz.prog (loopAt Tryz.f35 0)
 (Ic_eqSyntaxSLa A B) (Yc_eqSyntaxSLa A B) /\ (A = B -> ObsEq [] [] /\ AV.sv (lb true) = AV.sv (lb (decide (A = B)))) /\ ((A = B -> False) -> ObsEq [] [] /\ AV.sv (lb false) = AV.sv (lb
 (decide (A = B)))) /\ True)) := by kernel_rfl
theorem c_eqSyntaxS (A B : List Syntax) (ih : ∀ x ∈ A, ∀ (y : Syntax), P_c_eqSyntax x y)  : P_c_eqSyntaxS A B := by
  refine CallOK.ofRun wide (run_c_eqSyntaxS A B) Tryz.call35 Tryz.func35 rfl rfl rfl ?_
  with_reducible repeat' (first | apply And.intro | exact flatI | exact flatS | exact rowLens | exact ih | (intro; skip) | apply obsN | apply obsC | apply obA | apply obM | apply obB | apply svA | apply tupA | apply lcA | apply lcS | apply svC | apply liC | apply lbC | apply lsC | apply vIc | apply vBc | apply vSc | apply vLc | apply mapC | apply hdI | apply Ec_eqSyntaxSLa | apply Sc_eqSyntaxSLa | apply EW1c_eqSyntaxSLa)
  all_goals (try simp only [std] at *)
  all_goals (try (first | with_reducible apply ih | (simp only [<- List.map_append]; first | with_reducible apply ih)))
  all_goals (try (first | with_reducible rfl | omega | assumption | exact dT ‹_› | exact dF ‹_› | ((first | refine rowGet ?_ | refine getC ?_ rfl); (first | omega | (simp only [std]; omega) | grind)) | (show (_ : St) = _; rfl) | grind [snocI, snocS, rowSnoc]))
theorem run_c_eqSyntax_s (x : Syntax) (y : Syntax) : aexec Tryz.prog (Tryz.f36.body.getD .skip) (entry [] [syntaxA x, syntaxA y] 32) [.br [.fin []] [.br
 [.fin []] [.br [.fin []] [.call [Mode.rd, Mode.rd] [] (AV.sv (lb (decide (Syntax.scopes x = Syntax.scopes y)))), .br [.fin []] [.call [Mode.rd, Mode.rd] []
 (AV.sv (lb (decide (Syntax.items x = Syntax.items y)))), .br [.fin []] [.fin []]]]]]] (finK Tryz.prog [ResultVar.tmp 4] [] (AV.sv (lb (decide (x = y))))) = ((decide
 (Syntax.kind x ≠ Syntax.kind y) = true -> ObsEq [] [] /\ AV.sv (lb false) = AV.sv (lb (decide (x = y)))) /\ (decide (Syntax.kind x ≠ Syntax.kind y) = false -> (decide (Syntax.number x
 ≠ Syntax.number y) = true -> ObsEq [] [] /\ AV.sv (lb false) = AV.sv (lb (decide (x = y)))) /\ (decide (Syntax.number x ≠ Syntax.number y) = false -> (decide (Array.toList
 (ByteArray.data (Syntax.text x)) ≠ Array.toList (ByteArray.data (Syntax.text y))) = true -> ObsEq [] [] /\ AV.sv (lb false) = AV.sv (lb (decide (x = y)))) /\ (decide (Array.toList
 (ByteArray.data (Syntax.text x)) ≠ Array.toList (ByteArray.data (Syntax.text y))) = false -> P_c_eqIntS (Syntax.scopes x) (Syntax.scopes y) /\ ((!decide (Syntax.scopes x =
 Syntax.scopes y)) = true -> ObsEq [] [] /\ AV.sv (lb false) = AV.sv (lb (decide (x = y)))) /\ ((!decide (Syntax.scopes x = Syntax.scopes y)) = false -> P_c_eqSyntaxS (Syntax.items x)
 (Syntax.items y) /\ ((!decide (Syntax.items x = Syntax.items y)) = true -> ObsEq [] [] /\ AV.sv (lb false) = AV.sv (lb (decide (x = y)))) /\ ((!decide (Syntax.items x = Syntax.items
 y)) = false -> ObsEq [] [] /\ AV.sv (lb true) = AV.sv (lb (decide (x = y))))))))) := by kernel_rfl
theorem c_eqSyntax_s (x y : Syntax) (ih : ∀ z ∈ x.items, ∀ (y : Syntax), P_c_eqSyntax z y)  : P_c_eqSyntax x y := by
  refine CallOK.ofRun wide (run_c_eqSyntax_s x y) Tryz.call36 Tryz.func36 rfl rfl rfl ?_
  simp only [syntaxExt]
  with_reducible repeat' (first | apply And.intro | exact flatI | exact flatS | exact rowLens | exact ih | (intro; skip) | apply obsN | apply obsC | apply obA | apply obM | apply obB | apply svA | apply tupA | apply lcA | apply lcS | apply svC | apply liC | apply lbC | apply lsC | apply vIc | apply vBc | apply vSc | apply vLc | apply mapC | apply c_eqIntS | apply c_eqSyntaxS | apply ih)
  all_goals (try simp only [std] at *)
  all_goals (try (first | with_reducible apply c_eqIntS | with_reducible apply c_eqSyntaxS | with_reducible apply ih | (simp only [<- List.map_append]; first | with_reducible apply c_eqIntS | with_reducible apply c_eqSyntaxS | with_reducible apply ih)))
  all_goals (try (first | with_reducible rfl | omega | assumption | exact dT ‹_› | exact dF ‹_› | ((first | refine rowGet ?_ | refine getC ?_ rfl); (first | omega | (simp only [std]; omega) | grind)) | (show (_ : St) = _; rfl) | grind [bytes_ext, snocI, snocS, rowSnoc]))
theorem c_eqSyntax (x : Syntax) : ∀ (y : Syntax), P_c_eqSyntax x y := Syntax.ind (P := fun x => ∀ (y : Syntax), P_c_eqSyntax x y) (fun x ih y => c_eqSyntax_s x y ih) x
abbrev P_c_eqBinding (x : Binding) (y : Binding) : Prop := CallOK Tryz.prog 102 [] [bindingA x, bindingA y] [] (.sv (lb (decide (x = y))))
theorem run_c_eqBinding (x : Binding) (y : Binding) : aexec Tryz.prog (Tryz.f102.body.getD .skip) (entry [] [bindingA x, bindingA y] 26) [.br [.fin []]
 [.call [Mode.rd, Mode.rd] [] (AV.sv (lb (decide (Binding.scopes x = Binding.scopes y)))), .br [.fin []] [.br [.fin []] [.br [.fin []] [.fin []]]]]] (finK
 Tryz.prog [ResultVar.tmp 4] [] (AV.sv (lb (decide (x = y))))) = ((decide (Array.toList (ByteArray.data (Binding.text x)) ≠ Array.toList (ByteArray.data (Binding.text y))) = true ->
 ObsEq [] [] /\ AV.sv (lb false) = AV.sv (lb (decide (x = y)))) /\ (decide (Array.toList (ByteArray.data (Binding.text x)) ≠ Array.toList (ByteArray.data (Binding.text y))) = false ->
 P_c_eqIntS (Binding.scopes x) (Binding.scopes y) /\ ((!decide (Binding.scopes x = Binding.scopes y)) = true -> ObsEq [] [] /\ AV.sv (lb false) = AV.sv (lb (decide (x = y)))) /\
 ((!decide (Binding.scopes x = Binding.scopes y)) = false -> (decide (Binding.kind x ≠ Binding.kind y) = true -> ObsEq [] [] /\ AV.sv (lb false) = AV.sv (lb (decide (x = y)))) /\
 (decide (Binding.kind x ≠ Binding.kind y) = false -> (decide (Binding.number x ≠ Binding.number y) = true -> ObsEq [] [] /\ AV.sv (lb false) = AV.sv (lb (decide (x = y)))) /\ (decide
 (Binding.number x ≠ Binding.number y) = false -> ObsEq [] [] /\ AV.sv (lb true) = AV.sv (lb (decide (x = y)))))))) := by kernel_rfl
theorem c_eqBinding (x y : Binding)  : P_c_eqBinding x y := by
  refine CallOK.ofRun wide (run_c_eqBinding x y) Tryz.call102 Tryz.func102 rfl rfl rfl ?_
  simp only [bindingExt]
  with_reducible repeat' (first | apply And.intro | exact flatI | exact flatS | exact rowLens | (intro; skip) | apply obsN | apply obsC | apply obA | apply obM | apply obB | apply svA | apply tupA | apply lcA | apply lcS | apply svC | apply liC | apply lbC | apply lsC | apply vIc | apply vBc | apply vSc | apply vLc | apply mapC | apply c_eqIntS)
  all_goals (try simp only [std] at *)
  all_goals (try (first | with_reducible apply c_eqIntS | (simp only [<- List.map_append]; first | with_reducible apply c_eqIntS)))
  all_goals (try (first | with_reducible rfl | omega | assumption | exact dT ‹_› | exact dF ‹_› | ((first | refine rowGet ?_ | refine getC ?_ rfl); (first | omega | (simp only [std]; omega) | grind)) | (show (_ : St) = _; rfl) | grind [bytes_ext, snocI, snocS, rowSnoc]))
abbrev P_c_eqBindingS (A : List Binding) (B : List Binding) : Prop := CallOK Tryz.prog 34 [] [ll (A.map bindingC), ll (B.map bindingC)] [] (.sv (lb (decide (A = B))))
def Tc_eqBindingSLa (A : List Binding) (B : List Binding) (x0 : SV) : St := St.mk (regsOf 27 [(0, AV.sv (ll (List.map bindingC A))), (1, AV.sv (ll (List.map bindingC B))), (5,
 AV.sv x0)]) [] 0 
def Lc_eqBindingSLa (A : List Binding) (B : List Binding) (k : Nat) : St := Tc_eqBindingSLa A B (li (k : Int)) 
abbrev Ic_eqBindingSLa (A : List Binding) (B : List Binding) : Nat -> St -> Prop := Head (Lc_eqBindingSLa A B) (fun k => k <= List.length A /\ List.length A <= 9223372036854775807 /\
 List.length A = List.length B /\ List.take k A = List.take k B) fun k => List.length A - k 
def W0c_eqBindingSLa (A : List Binding) (B : List Binding) : St := St.mk (regsOf 27 []) [] 0 
def W1c_eqBindingSLa (A : List Binding) (B : List Binding) (x0 : SV) : St := St.mk (regsOf 27 [(4, AV.sv x0)]) [] 0 
def Yc_eqBindingSLa (A : List Binding) (B : List Binding) : List (Prop × AEx × St) := [(A = B, AEx.exit 0, W0c_eqBindingSLa A B), (A ≠ B, AEx.ret, W1c_eqBindingSLa A B (lb false))]

theorem Ec_eqBindingSLa {A : List Binding} {B : List Binding} {k : Nat} {x0 : SV} (h0 : x0 = (li (k : Int))) : Tc_eqBindingSLa A B x0 = Lc_eqBindingSLa A B k := by
  rw [h0]
  rfl
theorem EW1c_eqBindingSLa {A : List Binding} {B : List Binding} {x0 y0 : SV} (h0 : x0 = y0) : W1c_eqBindingSLa A B x0 = W1c_eqBindingSLa A B y0 := by rw [h0]
theorem run_c_eqBindingSLa (A : List Binding) (B : List Binding) (k : Nat) : aexec Tryz.prog (loopAt Tryz.f34 0) (Lc_eqBindingSLa A B k) [.br [.draw [], .cells (bindingF
 (List.getD A k default)), .cells (bindingF (List.getD B k default)), .call [Mode.rd, Mode.rd] [] (AV.sv (lb (decide (List.getD A k default = List.getD B k default)))),
 .br [.ghost (.sel [] [4]), .out 1] [.ghost (.sel [] [0, 1, 5]), .goto (List.length A - (k + 1)) (Lc_eqBindingSLa A B (k + 1))]] [.ghost (.sel []
 []), .out 0]] (loopK (Ic_eqBindingSLa A B) (Yc_eqBindingSLa A B) (List.length A - k)) = (List.length (List.map bindingC A) <= 9223372036854775807 -> (decide ((k : Int) <
 (↑(List.length (List.map bindingC A)) : Int)) = true -> (0 <= (k : Int) /\ (List.map bindingC A)[Int.toNat (k : Int)]? = some (bindingF (List.getD A k default))) /\ (0 <= (k : Int)
 /\ (List.map bindingC B)[Int.toNat (k : Int)]? = some (bindingF (List.getD B k default))) /\ P_c_eqBinding (List.getD A k default) (List.getD B k default) /\ ((!decide (List.getD A
 k default = List.getD B k default)) = true -> A ≠ B /\ W1c_eqBindingSLa A B (lb false) = W1c_eqBindingSLa A B (lb false)) /\ ((!decide (List.getD A k default = List.getD B k
 default)) = false -> rng .i64 ((k : Int) + 1) /\ List.length A - (k + 1) < List.length A - k /\ Tc_eqBindingSLa A B (li ((k : Int) + 1)) = Lc_eqBindingSLa A B (k + 1) /\
 Ic_eqBindingSLa A B (List.length A - (k + 1)) (Lc_eqBindingSLa A B (k + 1)))) /\ (decide ((k : Int) < (↑(List.length (List.map bindingC A)) : Int)) = false -> A = B /\
 W0c_eqBindingSLa A B = W0c_eqBindingSLa A B)) := by kernel_rfl
theorem Sc_eqBindingSLa (A : List Binding) (B : List Binding)  : LoopSem Tryz.prog (loopAt Tryz.f34 0) (Ic_eqBindingSLa A B) (Yc_eqBindingSLa A B) := by
  refine LoopSem.ofHead wide fun k h => ⟨_, _, run_c_eqBindingSLa A B k, ?_⟩
  with_reducible repeat' (first | apply And.intro | exact flatI | exact flatS | exact rowLens | (intro; skip) | apply obsN | apply obsC | apply obA | apply obM | apply obB | apply svA | apply tupA | apply lcA | apply lcS | apply svC | apply liC | apply lbC | apply lsC | apply vIc | apply vBc | apply vSc | apply vLc | apply mapC | apply hdI | apply Ec_eqBindingSLa | apply EW1c_eqBindingSLa | apply c_eqBinding)
  all_goals (try simp only [std] at *)
  all_goals (try (first | with_reducible apply c_eqBinding | (simp only [<- List.map_append]; first | with_reducible apply c_eqBinding)))
  all_goals (try (first | with_reducible rfl | omega | assumption | exact dT ‹_› | exact dF ‹_› | ((first | refine rowGet ?_ | refine getC ?_ rfl); (first | omega | (simp only [std]; omega) | grind)) | (show (_ : St) = _; rfl) | grind [take_eq, getD_mem', snocI, snocS, rowSnoc]))
theorem run_c_eqBindingS (A : List Binding) (B : List Binding) : aexec Tryz.prog (Tryz.f34.body.getD .skip) (entry [] [ll (List.map bindingC A), ll (List.map
 bindingC B)] 27) [.br [.fin []] [.ghost (.sel [] [0, 1, 5]), .loop (List.length A - 0) (Lc_eqBindingSLa A B 0) (Ic_eqBindingSLa A B) [(A = B, AEx.exit 0,
 W0c_eqBindingSLa A B, [.fin []]), (A ≠ B, AEx.ret, W1c_eqBindingSLa A B (lb false), [.fin []])]]] (finK Tryz.prog [ResultVar.tmp 4] [] (AV.sv (lb (decide (A = B))))) =
 (List.length (List.map bindingC A) <= 9223372036854775807 -> List.length (List.map bindingC B) <= 9223372036854775807 -> (decide ((↑(List.length (List.map bindingC A)) : Int) ≠
 (↑(List.length (List.map bindingC B)) : Int)) = true -> ObsEq [] [] /\ AV.sv (lb false) = AV.sv (lb (decide (A = B)))) /\ (decide ((↑(List.length (List.map bindingC A)) : Int) ≠
 (↑(List.length (List.map bindingC B)) : Int)) = false -> Tc_eqBindingSLa A B (li 0) = Lc_eqBindingSLa A B 0 /\ Ic_eqBindingSLa A B (List.length A - 0) (Lc_eqBindingSLa A B 0) /\
 LoopSem Tryz.prog (loopAt Tryz.f34 0) (Ic_eqBindingSLa A B) (Yc_eqBindingSLa A B) /\ (A = B -> ObsEq [] [] /\ AV.sv (lb true) = AV.sv (lb (decide (A = B)))) /\ ((A = B -> False) ->
 ObsEq [] [] /\ AV.sv (lb false) = AV.sv (lb (decide (A = B)))) /\ True)) := by kernel_rfl
theorem c_eqBindingS (A B : List Binding)  : P_c_eqBindingS A B := by
  refine CallOK.ofRun wide (run_c_eqBindingS A B) Tryz.call34 Tryz.func34 rfl rfl rfl ?_
  with_reducible repeat' (first | apply And.intro | exact flatI | exact flatS | exact rowLens | (intro; skip) | apply obsN | apply obsC | apply obA | apply obM | apply obB | apply svA | apply tupA | apply lcA | apply lcS | apply svC | apply liC | apply lbC | apply lsC | apply vIc | apply vBc | apply vSc | apply vLc | apply mapC | apply hdI | apply Ec_eqBindingSLa | apply Sc_eqBindingSLa | apply EW1c_eqBindingSLa | apply c_eqBinding)
  all_goals (try simp only [std] at *)
  all_goals (try (first | with_reducible apply c_eqBinding | (simp only [<- List.map_append]; first | with_reducible apply c_eqBinding)))
  all_goals (try (first | with_reducible rfl | omega | assumption | exact dT ‹_› | exact dF ‹_› | ((first | refine rowGet ?_ | refine getC ?_ rfl); (first | omega | (simp only [std]; omega) | grind)) | (show (_ : St) = _; rfl) | grind [snocI, snocS, rowSnoc]))
abbrev P_c_eqRules (x : Rules) (y : Rules) : Prop := CallOK Tryz.prog 44 [] [rulesA x, rulesA y] [] (.sv (lb (decide (x = y))))
theorem run_c_eqRules (x : Rules) (y : Rules) : aexec Tryz.prog (Tryz.f44.body.getD .skip) (entry [] [rulesA x, rulesA y] 23) [.call [Mode.rd, Mode.rd] []
 (AV.sv (lb (decide (Rules.literals x = Rules.literals y)))), .br [.fin []] [.call [Mode.rd, Mode.rd] [] (AV.sv (lb (decide (Rules.patterns x = Rules.patterns y)))),
 .br [.fin []] [.call [Mode.rd, Mode.rd] [] (AV.sv (lb (decide (Rules.templates x = Rules.templates y)))), .br [.fin []] [.fin []]]]] (finK Tryz.prog
 [ResultVar.tmp 4] [] (AV.sv (lb (decide (x = y))))) = (P_c_eqSyntaxS (Rules.literals x) (Rules.literals y) /\ ((!decide (Rules.literals x = Rules.literals y)) = true -> ObsEq [] []
 /\ AV.sv (lb false) = AV.sv (lb (decide (x = y)))) /\ ((!decide (Rules.literals x = Rules.literals y)) = false -> P_c_eqSyntaxS (Rules.patterns x) (Rules.patterns y) /\ ((!decide
 (Rules.patterns x = Rules.patterns y)) = true -> ObsEq [] [] /\ AV.sv (lb false) = AV.sv (lb (decide (x = y)))) /\ ((!decide (Rules.patterns x = Rules.patterns y)) = false ->
 P_c_eqSyntaxS (Rules.templates x) (Rules.templates y) /\ ((!decide (Rules.templates x = Rules.templates y)) = true -> ObsEq [] [] /\ AV.sv (lb false) = AV.sv (lb (decide (x = y)))) /\
 ((!decide (Rules.templates x = Rules.templates y)) = false -> ObsEq [] [] /\ AV.sv (lb true) = AV.sv (lb (decide (x = y))))))) := by kernel_rfl
theorem c_eqRules (x y : Rules)  : P_c_eqRules x y := by
  refine CallOK.ofRun wide (run_c_eqRules x y) Tryz.call44 Tryz.func44 rfl rfl rfl ?_
  simp only [rulesExt]
  with_reducible repeat' (first | apply And.intro | exact flatI | exact flatS | exact rowLens | (intro; skip) | apply obsN | apply obsC | apply obA | apply obM | apply obB | apply svA | apply tupA | apply lcA | apply lcS | apply svC | apply liC | apply lbC | apply lsC | apply vIc | apply vBc | apply vSc | apply vLc | apply mapC | apply c_eqSyntaxS | apply c_eqSyntax)
  all_goals (try simp only [std] at *)
  all_goals (try (first | with_reducible apply c_eqSyntaxS | with_reducible apply c_eqSyntax | (simp only [<- List.map_append]; first | with_reducible apply c_eqSyntaxS | with_reducible apply c_eqSyntax)))
  all_goals (try (first | with_reducible rfl | omega | assumption | exact dT ‹_› | exact dF ‹_› | ((first | refine rowGet ?_ | refine getC ?_ rfl); (first | omega | (simp only [std]; omega) | grind)) | (show (_ : St) = _; rfl) | grind [bytes_ext, snocI, snocS, rowSnoc]))
abbrev P_c_eqRulesS (A : List Rules) (B : List Rules) : Prop := CallOK Tryz.prog 90 [] [ll (A.map rulesC), ll (B.map rulesC)] [] (.sv (lb (decide (A = B))))
def Tc_eqRulesSLa (A : List Rules) (B : List Rules) (x0 : SV) : St := St.mk (regsOf 27 [(0, AV.sv (ll (List.map rulesC A))), (1, AV.sv (ll (List.map rulesC B))), (5, AV.sv x0)]) []
 0 
def Lc_eqRulesSLa (A : List Rules) (B : List Rules) (k : Nat) : St := Tc_eqRulesSLa A B (li (k : Int)) 
abbrev Ic_eqRulesSLa (A : List Rules) (B : List Rules) : Nat -> St -> Prop := Head (Lc_eqRulesSLa A B) (fun k => k <= List.length A /\ List.length A <= 9223372036854775807 /\ List.length A
 = List.length B /\ List.take k A = List.take k B) fun k => List.length A - k 
def W0c_eqRulesSLa (A : List Rules) (B : List Rules) : St := St.mk (regsOf 27 []) [] 0 
def W1c_eqRulesSLa (A : List Rules) (B : List Rules) (x0 : SV) : St := St.mk (regsOf 27 [(4, AV.sv x0)]) [] 0 
def Yc_eqRulesSLa (A : List Rules) (B : List Rules) : List (Prop × AEx × St) := [(A = B, AEx.exit 0, W0c_eqRulesSLa A B), (A ≠ B, AEx.ret, W1c_eqRulesSLa A B (lb false))]

theorem Ec_eqRulesSLa {A : List Rules} {B : List Rules} {k : Nat} {x0 : SV} (h0 : x0 = (li (k : Int))) : Tc_eqRulesSLa A B x0 = Lc_eqRulesSLa A B k := by
  rw [h0]
  rfl
theorem EW1c_eqRulesSLa {A : List Rules} {B : List Rules} {x0 y0 : SV} (h0 : x0 = y0) : W1c_eqRulesSLa A B x0 = W1c_eqRulesSLa A B y0 := by rw [h0]
theorem run_c_eqRulesSLa (A : List Rules) (B : List Rules) (k : Nat) : aexec Tryz.prog (loopAt Tryz.f90 0) (Lc_eqRulesSLa A B k) [.br [.draw [], .cells (rulesF (List.getD
 A k default)), .cells (rulesF (List.getD B k default)), .call [Mode.rd, Mode.rd] [] (AV.sv (lb (decide (List.getD A k default = List.getD B k default)))), .br [.ghost
 (.sel [] [4]), .out 1] [.ghost (.sel [] [0, 1, 5]), .goto (List.length A - (k + 1)) (Lc_eqRulesSLa A B (k + 1))]] [.ghost (.sel [] []), .out 0]]
 (loopK (Ic_eqRulesSLa A B) (Yc_eqRulesSLa A B) (List.length A - k)) = (List.length (List.map rulesC A) <= 9223372036854775807 -> (decide ((k : Int) < (↑(List.length (List.map
 rulesC A)) : Int)) = true -> (0 <= (k : Int) /\ (List.map rulesC A)[Int.toNat (k : Int)]? = some (rulesF (List.getD A k default))) /\ (0 <= (k : Int) /\ (List.map rulesC B)[Int.toNat
 (k : Int)]? = some (rulesF (List.getD B k default))) /\ P_c_eqRules (List.getD A k default) (List.getD B k default) /\ ((!decide (List.getD A k default = List.getD B k default)) =
 true -> A ≠ B /\ W1c_eqRulesSLa A B (lb false) = W1c_eqRulesSLa A B (lb false)) /\ ((!decide (List.getD A k default = List.getD B k default)) = false -> rng .i64 ((k : Int) +
 1) /\ List.length A - (k + 1) < List.length A - k /\ Tc_eqRulesSLa A B (li ((k : Int) + 1)) = Lc_eqRulesSLa A B (k + 1) /\ Ic_eqRulesSLa A B (List.length A - (k + 1)) (Lc_eqRulesSLa
 A B (k + 1)))) /\ (decide ((k : Int) < (↑(List.length (List.map rulesC A)) : Int)) = false -> A = B /\ W0c_eqRulesSLa A B = W0c_eqRulesSLa A B)) := by kernel_rfl
theorem Sc_eqRulesSLa (A : List Rules) (B : List Rules)  : LoopSem Tryz.prog (loopAt Tryz.f90 0) (Ic_eqRulesSLa A B) (Yc_eqRulesSLa A B) := by
  refine LoopSem.ofHead wide fun k h => ⟨_, _, run_c_eqRulesSLa A B k, ?_⟩
  with_reducible repeat' (first | apply And.intro | exact flatI | exact flatS | exact rowLens | (intro; skip) | apply obsN | apply obsC | apply obA | apply obM | apply obB | apply svA | apply tupA | apply lcA | apply lcS | apply svC | apply liC | apply lbC | apply lsC | apply vIc | apply vBc | apply vSc | apply vLc | apply mapC | apply hdI | apply Ec_eqRulesSLa | apply EW1c_eqRulesSLa | apply c_eqRules)
  all_goals (try simp only [std] at *)
  all_goals (try (first | with_reducible apply c_eqRules | (simp only [<- List.map_append]; first | with_reducible apply c_eqRules)))
  all_goals (try (first | with_reducible rfl | omega | assumption | exact dT ‹_› | exact dF ‹_› | ((first | refine rowGet ?_ | refine getC ?_ rfl); (first | omega | (simp only [std]; omega) | grind)) | (show (_ : St) = _; rfl) | grind [take_eq, getD_mem', snocI, snocS, rowSnoc]))
theorem run_c_eqRulesS (A : List Rules) (B : List Rules) : aexec Tryz.prog (Tryz.f90.body.getD .skip) (entry [] [ll (List.map rulesC A), ll (List.map rulesC B)]
 27) [.br [.fin []] [.ghost (.sel [] [0, 1, 5]), .loop (List.length A - 0) (Lc_eqRulesSLa A B 0) (Ic_eqRulesSLa A B) [(A = B, AEx.exit 0, W0c_eqRulesSLa A B,
 [.fin []]), (A ≠ B, AEx.ret, W1c_eqRulesSLa A B (lb false), [.fin []])]]] (finK Tryz.prog [ResultVar.tmp 4] [] (AV.sv (lb (decide (A = B))))) = (List.length (List.map rulesC
 A) <= 9223372036854775807 -> List.length (List.map rulesC B) <= 9223372036854775807 -> (decide ((↑(List.length (List.map rulesC A)) : Int) ≠ (↑(List.length (List.map rulesC B)) :
 Int)) = true -> ObsEq [] [] /\ AV.sv (lb false) = AV.sv (lb (decide (A = B)))) /\ (decide ((↑(List.length (List.map rulesC A)) : Int) ≠ (↑(List.length (List.map rulesC B)) : Int)) =
 false -> Tc_eqRulesSLa A B (li 0) = Lc_eqRulesSLa A B 0 /\ Ic_eqRulesSLa A B (List.length A - 0) (Lc_eqRulesSLa A B 0) /\ LoopSem Tryz.prog (loopAt Tryz.f90 0) (Ic_eqRulesSLa A B)
 (Yc_eqRulesSLa A B) /\ (A = B -> ObsEq [] [] /\ AV.sv (lb true) = AV.sv (lb (decide (A = B)))) /\ ((A = B -> False) -> ObsEq [] [] /\ AV.sv (lb false) = AV.sv (lb (decide (A = B)))) /\
 True)) := by kernel_rfl
theorem c_eqRulesS (A B : List Rules)  : P_c_eqRulesS A B := by
  refine CallOK.ofRun wide (run_c_eqRulesS A B) Tryz.call90 Tryz.func90 rfl rfl rfl ?_
  with_reducible repeat' (first | apply And.intro | exact flatI | exact flatS | exact rowLens | (intro; skip) | apply obsN | apply obsC | apply obA | apply obM | apply obB | apply svA | apply tupA | apply lcA | apply lcS | apply svC | apply liC | apply lbC | apply lsC | apply vIc | apply vBc | apply vSc | apply vLc | apply mapC | apply hdI | apply Ec_eqRulesSLa | apply Sc_eqRulesSLa | apply EW1c_eqRulesSLa | apply c_eqRules)
  all_goals (try simp only [std] at *)
  all_goals (try (first | with_reducible apply c_eqRules | (simp only [<- List.map_append]; first | with_reducible apply c_eqRules)))
  all_goals (try (first | with_reducible rfl | omega | assumption | exact dT ‹_› | exact dF ‹_› | ((first | refine rowGet ?_ | refine getC ?_ rfl); (first | omega | (simp only [std]; omega) | grind)) | (show (_ : St) = _; rfl) | grind [snocI, snocS, rowSnoc]))
abbrev P_c_eqExpander (x : Expander) (y : Expander) : Prop := CallOK Tryz.prog 24 [] [expanderA x, expanderA y] [] (.sv (lb (decide (x = y))))
theorem run_c_eqExpander (x : Expander) (y : Expander) : aexec Tryz.prog (Tryz.f24.body.getD .skip) (entry [] [expanderA x, expanderA y] 32) [.call [Mode.rd,
 Mode.rd] [] (AV.sv (lb (decide (Expander.bindings x = Expander.bindings y)))), .br [.fin []] [.call [Mode.rd, Mode.rd] [] (AV.sv (lb (decide (Expander.macros x =
 Expander.macros y)))), .br [.fin []] [.br [.fin []] [.br [.fin []] [.br [.fin []] [.fin []]]]]]] (finK Tryz.prog [ResultVar.tmp 4] [] (AV.sv (lb (decide
 (x = y))))) = (P_c_eqBindingS (Expander.bindings x) (Expander.bindings y) /\ ((!decide (Expander.bindings x = Expander.bindings y)) = true -> ObsEq [] [] /\ AV.sv (lb false) = AV.sv
 (lb (decide (x = y)))) /\ ((!decide (Expander.bindings x = Expander.bindings y)) = false -> P_c_eqRulesS (Expander.macros x) (Expander.macros y) /\ ((!decide (Expander.macros x =
 Expander.macros y)) = true -> ObsEq [] [] /\ AV.sv (lb false) = AV.sv (lb (decide (x = y)))) /\ ((!decide (Expander.macros x = Expander.macros y)) = false -> (decide (Expander.scope x
 ≠ Expander.scope y) = true -> ObsEq [] [] /\ AV.sv (lb false) = AV.sv (lb (decide (x = y)))) /\ (decide (Expander.scope x ≠ Expander.scope y) = false -> (decide (Expander.vari x ≠
 Expander.vari y) = true -> ObsEq [] [] /\ AV.sv (lb false) = AV.sv (lb (decide (x = y)))) /\ (decide (Expander.vari x ≠ Expander.vari y) = false -> (decide (Expander.steps x ≠
 Expander.steps y) = true -> ObsEq [] [] /\ AV.sv (lb false) = AV.sv (lb (decide (x = y)))) /\ (decide (Expander.steps x ≠ Expander.steps y) = false -> ObsEq [] [] /\ AV.sv (lb true) =
 AV.sv (lb (decide (x = y))))))))) := by kernel_rfl
theorem c_eqExpander (x y : Expander)  : P_c_eqExpander x y := by
  refine CallOK.ofRun wide (run_c_eqExpander x y) Tryz.call24 Tryz.func24 rfl rfl rfl ?_
  simp only [expanderExt]
  with_reducible repeat' (first | apply And.intro | exact flatI | exact flatS | exact rowLens | (intro; skip) | apply obsN | apply obsC | apply obA | apply obM | apply obB | apply svA | apply tupA | apply lcA | apply lcS | apply svC | apply liC | apply lbC | apply lsC | apply vIc | apply vBc | apply vSc | apply vLc | apply mapC | apply c_eqBindingS | apply c_eqRulesS)
  all_goals (try simp only [std] at *)
  all_goals (try (first | with_reducible apply c_eqBindingS | with_reducible apply c_eqRulesS | (simp only [<- List.map_append]; first | with_reducible apply c_eqBindingS | with_reducible apply c_eqRulesS)))
  all_goals (try (first | with_reducible rfl | omega | assumption | exact dT ‹_› | exact dF ‹_› | ((first | refine rowGet ?_ | refine getC ?_ rfl); (first | omega | (simp only [std]; omega) | grind)) | (show (_ : St) = _; rfl) | grind [bytes_ext, snocI, snocS, rowSnoc]))
end Go.Proofs.YtegbadciefljcaaGreat
end
section
namespace Go.Proofs.YtegbadciefljcaaGreat
open Go Go.Proofs.YtegbadciefljcaaGreat.Ab
set_option linter.unusedVariables false
set_option linter.unusedSimpArgs false
set_option maxHeartbeats 4000000
abbrev P_c_LFre (x : Expander) (kind : Int) : Prop := CallOK Tryz.prog 7 [] [expanderA x, li kind] [] (.sv (lb true))
abbrev a1_c_LFre (x : Expander) (kind : Int) := (Expander.mk (Expander.bindings x) (Expander.macros x) (frS x kind) (Expander.vari x) (Expander.steps x) = Expander.mk
 (Expander.bindings x) (Expander.macros x) (frS x kind) (Expander.vari x) (Expander.steps x))
abbrev a4_c_LFre (x : Expander) := (seqM mkR cR (Expander.macros x) (1 + (↑(sumBy cB (Expander.bindings x)) : Int)))
abbrev a2_c_LFre (x : Expander) := (1 + (↑(sumBy cB (seqM mkB cB (Expander.bindings x) 1)) : Int) + (↑(sumBy cR (a4_c_LFre x)) : Int) ≠ 1 + (↑(sumBy cB (Expander.bindings x)) :
 Int) + (↑(sumBy cR (Expander.macros x)) : Int))
abbrev a3_c_LFre (x : Expander) (kind : Int) := (Expander.mk (Expander.bindings x) (Expander.macros x) (frS x kind) (Expander.vari x) (Expander.steps x))
abbrev a5_c_LFre (x : Expander) (kind : Int) := (AV.tup [SV.agg [AC.ref 0, AC.ref 1, vI (frS x kind), vI (Expander.vari x), vI (Expander.steps x)], li (frN x kind)])
theorem run_c_LFre (x : Expander) (kind : Int) : aexec Tryz.prog (Tryz.f7.body.getD .skip) (entry [] [expanderA x, li kind] 101) [.call [Mode.rd, Mode.rd] []
 (AV.sv (li (sz (wX x) 1048576))), .br [.fin []] [.call [Mode.rd] (expanderO x) (AV.sv (expanderR x 0)), .call [Mode.rd, Mode.rd] (expanderO x) (a5_c_LFre x kind),
 .call [Mode.rd] (expanderO x) (AV.sv (expanderR x 0)), .call [Mode.rd, Mode.rd] (expanderO x) (a5_c_LFre x kind), .call [Mode.rd, Mode.rd] [] (AV.sv (lb (decide
 (a1_c_LFre x kind)))), .br [.bool true, .fin []] [.br [.fin []] [.draw [], .call [Mode.rd] (expanderO x) (AV.sv (expanderR x 0)), .call [Mode.rd, Mode.rd]
 [] (AV.sv (lb (decide (x = x)))), .br [.fin []] [.call [Mode.agg [some (true, 4), some (true, 3), none, none, none], Mode.rd] [Ob.arr true 4 (List.map bindingC (seqM mkB
 cB (Expander.bindings x) 1)), Ob.arr true 3 (List.map rulesC (a4_c_LFre x))] (AV.sv (li (1 + (↑(sumBy cB (Expander.bindings x)) : Int) + (↑(sumBy cR (Expander.macros x)) :
 Int)))), .bool false, .call [Mode.rd, Mode.rd] [] (AV.sv (lb (decide (a1_c_LFre x kind)))), .br [.bool true, .fin []] [.br [.fin []] [.call [Mode.agg [some
 (true, 4), some (true, 3), none, none, none], Mode.rd] [Ob.arr true 4 (List.map bindingC (seqM mkB cB (Expander.bindings x) 1)), Ob.arr true 3 (List.map rulesC (a4_c_LFre x))]
 (AV.sv (li (1 + (↑(sumBy cB (Expander.bindings x)) : Int) + (↑(sumBy cR (Expander.macros x)) : Int)))), .call [Mode.rd, Mode.rd] [] (AV.sv (li (1 + (↑(sumBy cB (seqM mkB cB
 (Expander.bindings x) 1)) : Int) + (↑(sumBy cR (a4_c_LFre x)) : Int)))), .bool false, .br [.fin []] [.call [Mode.rd] (expanderO x) (AV.sv (expanderR x 0)), .call
 [Mode.rd, Mode.rd] (expanderO x) (a5_c_LFre x kind), .call [Mode.rd, Mode.rd] [] (AV.sv (lb (decide (a1_c_LFre x kind)))), .br [.bool true, .fin []] [.br [.fin
 []] [.call [Mode.rd, Mode.rd] [] (AV.sv (li (1 + (↑(sumBy cB (seqM mkB cB (Expander.bindings x) 1)) : Int) + (↑(sumBy cR (a4_c_LFre x)) : Int)))), .bool false, .br
 [.fin []] [.fin []]]]]]]]]]]] (finK Tryz.prog [ResultVar.tmp 4] [] (AV.sv (lb true))) = (P_c_szExpander x 1048576 /\ (decide (sz (wX x) (1048576 : Int) < 0) = true -> ObsEq []
 [] /\ AV.sv (lb true) = AV.sv (lb true)) /\ (decide (sz (wX x) (1048576 : Int) < 0) = false -> P_c_toExpander x /\ P_c_sFresh x kind /\ P_c_toExpander x /\ P_c_iFresh x kind /\
 P_c_eqExpander (a3_c_LFre x kind) (a3_c_LFre x kind) /\ ((!decide (a1_c_LFre x kind)) = true -> true = true /\ ObsEq [] [] /\ AV.sv (lb false) = AV.sv (lb true)) /\ ((!decide
 (a1_c_LFre x kind)) = false -> (decide (frN x kind ≠ frN x kind) = true -> ObsEq [] [] /\ AV.sv (lb false) = AV.sv (lb true)) /\ (decide (frN x kind ≠ frN x kind) = false ->
 P_c_toExpander x /\ P_c_eqExpander x x /\ ((!decide (x = x)) = true -> ObsEq [] [] /\ AV.sv (lb false) = AV.sv (lb true)) /\ ((!decide (x = x)) = false -> P_c_markExpander x 1 /\ false =
 false /\ P_c_eqExpander (a3_c_LFre x kind) (a3_c_LFre x kind) /\ ((!decide (a1_c_LFre x kind)) = true -> true = true /\ ObsEq [] [] /\ AV.sv (lb false) = AV.sv (lb true)) /\ ((!decide
 (a1_c_LFre x kind)) = false -> (decide (frN x kind ≠ frN x kind) = true -> ObsEq [] [] /\ AV.sv (lb false) = AV.sv (lb true)) /\ (decide (frN x kind ≠ frN x kind) = false ->
 P_c_markExpander (a3_c_LFre x kind) 1 /\ P_c_heldExpander (Expander.mk (seqM mkB cB (Expander.bindings x) 1) (a4_c_LFre x) (frS x kind) (Expander.vari x) (Expander.steps x)) 1 /\
 false = false /\ (decide (a2_c_LFre x) = true -> ObsEq [] [] /\ AV.sv (lb false) = AV.sv (lb true)) /\ (decide (a2_c_LFre x) = false -> P_c_toExpander x /\ P_c_iFresh x kind /\
 P_c_eqExpander (a3_c_LFre x kind) (a3_c_LFre x kind) /\ ((!decide (a1_c_LFre x kind)) = true -> true = true /\ ObsEq [] [] /\ AV.sv (lb false) = AV.sv (lb true)) /\ ((!decide
 (a1_c_LFre x kind)) = false -> (decide (frN x kind ≠ frN x kind) = true -> ObsEq [] [] /\ AV.sv (lb false) = AV.sv (lb true)) /\ (decide (frN x kind ≠ frN x kind) = false ->
 P_c_heldExpander (Expander.mk (seqM mkB cB (Expander.bindings x) 1) (a4_c_LFre x) (frS x kind) (Expander.vari x) (Expander.steps x)) 1 /\ false = false /\ (decide (a2_c_LFre x) =
 true -> ObsEq [] [] /\ AV.sv (lb false) = AV.sv (lb true)) /\ (decide (a2_c_LFre x) = false -> ObsEq [] [] /\ AV.sv (lb true) = AV.sv (lb true)))))))))))) := by kernel_rfl
theorem c_LFre (x : Expander) (kind : Int)  : P_c_LFre x kind := by
  refine CallOK.ofRun wide (run_c_LFre x kind) Tryz.call7 Tryz.func7 rfl rfl rfl ?_
  try delta a1_c_LFre a4_c_LFre a2_c_LFre a3_c_LFre a5_c_LFre
  have h0 := wX_eq x
  have h1 := sumBy_le16 x.bindings fun y _ => cB_le y
  have h2 := sumBy_le16 x.macros fun y _ => cR_le y
  with_reducible repeat' (first | apply And.intro | exact flatI | exact flatS | exact rowLens | (intro; skip) | apply obsN | apply obsC | apply obA | apply obM | apply obB | apply svA | apply tupA | apply lcA | apply lcS | apply svC | apply liC | apply lbC | apply lsC | apply vIc | apply vBc | apply vSc | apply vLc | apply mapC | apply c_szExpander | apply c_toExpander | apply c_eqExpander | apply c_sFresh | apply c_iFresh | apply c_markExpander | apply c_heldExpander)
  all_goals (try simp only [std, stdM] at *)
  all_goals (try (first | with_reducible apply c_szExpander | with_reducible apply c_toExpander | with_reducible apply c_eqExpander | with_reducible apply c_sFresh | with_reducible apply c_iFresh | with_reducible apply c_markExpander | with_reducible apply c_heldExpander | (simp only [<- List.map_append]; first | with_reducible apply c_szExpander | with_reducible apply c_toExpander | with_reducible apply c_eqExpander | with_reducible apply c_sFresh | with_reducible apply c_iFresh | with_reducible apply c_markExpander | with_reducible apply c_heldExpander)))
  all_goals (try (first | with_reducible rfl | omega | assumption | exact dT ‹_› | exact dF ‹_› | ((first | refine rowGet ?_ | refine getC ?_ rfl); (first | omega | (simp only [std, stdM]; omega) | grind)) | (refine fill_step ?_ ?_; (first | omega | (simp only [std, stdM]; omega) | grind); (first | rfl | exact (Row.eq _).trans rfl)) | (refine fill_init ?_; (first | rfl | exact (Row.eq _).trans rfl)) | (refine set_row ?_; (simp only [List.length_map, List.length_set, mkTo_len]; omega)) | (refine mkToRow ?_; (first | omega | (simp only [std, stdM]; omega) | grind)) | (refine mkTo_row ?_ rfl; (first | omega | (simp only [std, stdM]; omega) | grind)) | (refine mkTo_step ?_ ?_; (first | omega | (simp only [std, stdM]; omega) | grind); (first | grind [sz, seqM_idem, seqM_len, sum_seqM, snocI, snocS, rowSnoc])) | (show (_ : St) = _; rfl) | grind [sz, seqM_idem, seqM_len, sum_seqM, snocI, snocS, rowSnoc]))
end Go.Proofs.YtegbadciefljcaaGreat
end
section
namespace Go.Proofs.YtegbadciefljcaaGreat.fnExactFreshScope
open Go Go.ChangeShapes Go.WideShapes Go.ChangeAt Go.RowKit Go.Proofs.YtegbadciefljcaaGreat.Ab
set_option linter.unusedVariables false
theorem own : ownKnob Tryz.prog.godebug = none := by kernel_rfl
theorem laid : laidOutB Tryz.prog = true := by kernel_rfl
theorem rowed : mapsRowed Tryz.prog = true := by kernel_rfl
theorem sized : ((List.range Tryz.prog.types.size).all fun t => match Tryz.prog.underlying t with | some (.slice e) => decide (0 < Tryz.prog.cellsOf e) | _ => true) = true := by kernel_rfl
set_option maxRecDepth 100000 in
theorem lifted (os : Os) (started : os.Started) (H : Type) (enc : TypeId × Value -> H) :
    ReturnsInHanded {} Tryz.checked os 7 .any (Rows.fnExactFreshScopeSpec.pre6 enc Tryz.prog Tryz.f7 Rows.fnExactFreshScopeRow.domain false) (Rows.fnExactFreshScopeSpec.post enc Tryz.prog Tryz.f7 false true false false) := by
  refine returnsInHanded_of_change (C := Tryz.checked) own started (by kernel_rfl) Tryz.func7
    (ChangeSpec.witness6 (enc := enc) (C := Tryz.checked) false ⟨#[], #[.agg #[.slice none 0 0, .slice none 0 0, .int .i64 0, .int .i64 0, .int .i64 0], .int .i64 0], []⟩ 12 (by kernel_rfl) (by kernel_rfl) (by kernel_rfl) (by kernel_rfl)) ?_
  intro W base args ds gs before hval0 hW hcnd _
  have hval : ∀ (j : Nat) t v, Tryz.f7.params[j]? = some t -> args[j]? = some v -> Value.okWide Tryz.prog W .any base t v := hval0
  have hW' := hW
  obtain ⟨p, q, hA0, hV, rfl, hfz, hnd⟩ := hW
  obtain ⟨rfl, rfl⟩ := trodVars_none hV
  have hA : DataW.TrodAll enc Tryz.prog W 0 (fun _ => true) true Tryz.f7.params.toList args.toList ds p := hA0
  rw [Tryz.params7] at hA hval
  have hA2 := hA
  clear hA0 hval0
  obtain ⟨v0, vs0, d0, ds0, p0, q0, hargs0, rfl, rfl, h0, r0⟩ := trodAll_cons hA
  obtain ⟨v1, vs1, d1, ds1, p1, q1, hargs1, rfl, rfl, h1, r1⟩ := trodAll_cons r0
  obtain ⟨rfl, rfl, rfl⟩ := trodAll_nil r1
  obtain rfl : args = #[v0, v1] := by cases args; simp_all
  obtain ⟨a0, c0⟩ := (let ⟨fuel, hf⟩ := h0; rd_expander fuel _ _ hf)
  have s0 : SVRel W (allI W) (obOf []) (expanderA a0) v0 := agg_rel (let ⟨cs, h, _⟩ := okWide_struct Tryz.underlying43 (hval 0 43 v0 rfl rfl); ⟨cs, h⟩) c0
  obtain ⟨a1, rfl, rfl, rfl, w1⟩ := open_int Tryz.underlying3 (hval 1 3 v1 rfl rfl) h1
  have s1 : SVRel W (allI W) (obOf []) (li a1) (.int .i64 a1) := li_rel a1
  refine (CallOK.kept (w := W) (vals := #[v0, .int .i64 a1]) (c_LFre a0 a1) ⟨s0, s1, trivial⟩).mono fun e W' ⟨he, hg, _⟩ => ?_
  subst he
  exact ⟨_, rfl, post_of_kept (pv := []) hW' (fun _ _ _ => (trodAll_cons_mk (shut_bool Tryz.underlying4 _) trodAll_mk0))
    (fun sp hsp => trodAll_kept laid rowed sized hg (by decide +kernel) hA2 fun y hy => hsp y (by simpa using hy)) (fun _ _ => rfl) rfl
    hg (ok_one (by kernel_rfl) rfl (okWide_bool_mk Tryz.underlying4 _))⟩
set_option maxRecDepth 100000 in
set_option maxHeartbeats 0 in
theorem facts : joinedFacts Tryz.pinned.checked.prog 7 Tryz.f7 Rows.fnExactFreshScopeSpec Rows.fnExactFreshScopeRow = true := by
  delta joinedFacts
  with_reducible repeat' apply and_i
  all_goals (first | with_reducible exact enters | (rw [makes]; kernel_rfl) | (rw [lifts]; kernel_rfl) | decide +kernel)
theorem over : Rows.fnExactFreshScopeRow.holds Tryz.pinned (OpenSpec.ofChange Rows.fnExactFreshScopeSpec) :=
  OpenClaim.holds_of_wide 7 Tryz.f7 rfl rfl rfl rfl rfl rfl rfl ⟨rfl, rfl, rfl, rfl, rfl⟩ rfl rfl rfl rfl rfl (by kernel_rfl) Tryz.func7 facts
    (of_decide_eq_true (by kernel_rfl)) (by unfold Func.isWrapper; first | (rw [if_pos (by decide +kernel)]; kernel_rfl) | (rw [if_neg (by decide +kernel)]; exact ⟨rfl, rfl⟩))
    (fun os started H enc _ => lifted os started H enc)
theorem proved : Rows.FnExactFreshScopeSaid :=
  over
end Go.Proofs.YtegbadciefljcaaGreat.fnExactFreshScope
end
