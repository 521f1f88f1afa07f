/- The program's FormatCore returns what the reference's returns, for all arguments. No condition. No condition. -/
import Derived.Test.YtpflccjienojfaaDoorFmC1
import Derived.Test.YtpflccjienojfaaDoorCards
import Derived.Test.YtpflccjienojfaaDoorTie
import Derived.Deep.DeepHandedRow
import Derived.Lib.LaidTab
import Derived.Stop.LaidErr
section
namespace Go.Proofs.YtpflccjienojfaaDoor
open Go Go.Proofs.YtpflccjienojfaaDoor.Ab
set_option linter.unusedVariables false
set_option linter.unusedSimpArgs false
set_option maxHeartbeats 4000000
def smI (n : Int) : Bool := decide (0 ≤ n ∧ n ≤ 99999)
theorem smI_iff {n : Int} : smI n = true ↔ 0 ≤ n ∧ n ≤ 99999 := decide_eq_true_iff
mutual
def okV : Core → Bool
  | ⟨k, n, p, _, l⟩ => okVs l && ((!decide (k = 2 ∨ k = 4) || smI n) && p.all smI)
def okVs : List Core → Bool
  | [] => true
  | c :: r => okV c && okVs r
end
theorem okVs_eq : ∀ l, okVs l = l.all okV
  | [] => by simp [okVs]
  | c :: r => by rw [okVs, okVs_eq r]; rfl
theorem okV_eq (c : Core) : okV c = (c.kids.all okV && ((!decide (c.kind = 2 ∨ c.kind = 4) || smI c.number) && c.params.all smI)) := by cases c; simp only [okV, okVs_eq]
theorem fre0_keep {c : Core} {b o : List Int} {n : Int} (hn : n ∈ o) : n ∈ fre0 c b o := by
  unfold fre0; split
  · unfold addU; split
    · exact hn
    · exact List.mem_append_left _ hn
  · exact hn
theorem fre_keep : ∀ (c : Core) (b o : List Int), ∀ n ∈ o, n ∈ fre c b o := by
  refine Core.ind fun c ih b o n hn => ?_
  rw [fre_eq]
  have h : ∀ (L : List Core), (∀ y ∈ L, ∀ b o, ∀ n ∈ o, n ∈ fre y b o) → ∀ o, n ∈ o → n ∈ L.foldl (fun o x => fre x (b ++ c.params) o) o := by
    intro L; induction L with
    | nil => intro _ o h; exact h
    | cons x r ihr => intro hL o h; exact ihr (fun y hy => hL y (List.mem_cons_of_mem _ hy)) _ (hL x List.mem_cons_self _ _ n h)
  exact h c.kids ih _ (fre0_keep hn)
theorem okV_of : ∀ (c : Core) (b o : List Int), (∀ n ∈ b, smI n = true) → (∀ n ∈ bnd c, smI n = true) → (∀ n ∈ fre c b o, smI n = true) → okV c = true := by
  refine Core.ind fun c ih b o hb hp hf => ?_
  rw [okV_eq, Bool.and_eq_true, Bool.and_eq_true, List.all_eq_true, List.all_eq_true]
  rw [fre_eq] at hf
  have hpar : ∀ n ∈ c.params, smI n = true := fun n hn => hp n (by rw [bnd_eq]; exact List.mem_append_left _ hn)
  have keep : ∀ (L : List Core) o n, n ∈ o → n ∈ L.foldl (fun o x => fre x (b ++ c.params) o) o := by
    intro L; induction L with
    | nil => intro o n h; exact h
    | cons x r ihr => intro o n h; exact ihr _ n (fre_keep x _ _ n h)
  refine ⟨fun x hx => ?_, ?_, hpar⟩
  · have kid : ∀ (L : List Core) o, x ∈ L → (∀ n ∈ L.foldl (fun o x => fre x (b ++ c.params) o) o, smI n = true) → ∃ o', ∀ n ∈ fre x (b ++ c.params) o', smI n = true := by
      intro L; induction L with
      | nil => intro o h; cases h
      | cons y r ihr =>
        intro o h hall
        rcases List.mem_cons.1 h with rfl | h
        · exact ⟨o, fun n hn => hall n (keep r _ n hn)⟩
        · exact ihr _ h hall
    obtain ⟨o', h'⟩ := kid c.kids _ hx hf
    exact ih x hx (b ++ c.params) o' (fun n hn => (List.mem_append.1 hn).elim (hb n) (hpar n)) (fun n hn => hp n (by rw [bnd_eq]; exact List.mem_append_right _ (List.mem_flatMap.2 ⟨x, hx, hn⟩))) h'
  · by_cases hk : c.kind = 2 ∨ c.kind = 4
    · by_cases hm : c.number ∈ b
      · simp [hb _ hm]
      · have : c.number ∈ fre0 c b o := by
          unfold fre0; rw [if_pos ⟨hk, hm⟩]; unfold addU; split
          · assumption
          · exact List.mem_append_right _ List.mem_cons_self
        simp [hf _ (keep _ _ _ this)]
    · simp [hk]
theorem valC_V {c : Core} (h : valC c = true) : okV c = true := by
  simp only [valC, Bool.and_eq_true, okU_iff] at h
  exact okV_of c [] [] (by simp) (fun n hn => smI_iff.2 (h.2.2 n (List.mem_append_right _ hn))) (fun n hn => smI_iff.2 (h.2.2 n (List.mem_append_left _ hn)))
theorem valC_K {c : Core} (h : valC c = true) : okC c = true ∧ sizeC c ≤ 3000 := by
  simp only [valC, smC, Bool.and_eq_true, decide_eq_true_eq] at h; exact ⟨h.1.2, h.1.1.1⟩
def quoteS : ByteArray := mkS [113, 117, 111, 116, 101]
def setS : ByteArray := mkS [115, 101, 116, 33]
def lambdaS : ByteArray := mkS [108, 97, 109, 98, 100, 97]
def ifS : ByteArray := mkS [105, 102]
def beginS : ByteArray := mkS [98, 101, 103, 105, 110]
def localS : ByteArray := mkS [108, 111, 99, 97, 108]
def resetS : ByteArray := mkS [114, 101, 115, 101, 116]
def shiftS : ByteArray := mkS [115, 104, 105, 102, 116]
def varT (n : Int) : ByteArray := mkS ([118] ++ Lib.itoa n)
def varD (n : Int) : Datum := symD (varT n)
def headU (k n : Int) (p : List Int) : List Datum :=
  if k = 4 then [symD setS, varD n] else if k = 5 then [symD lambdaS, lstD (p.map varD)] else if k = 7 then [symD ifS] else if k = 8 then [symD beginS]
  else if k = 9 then [symD localS, lstD (p.map varD)] else if k = 10 then [symD resetS] else if k = 11 then [symD shiftS, varD (p.getD 0 0)] else []
mutual
def unpD : Core → Datum
  | ⟨k, n, p, d, l⟩ => if k = 1 then lstD [symD quoteS, d] else if k = 2 then varD n else if k = 3 then symD (primNames.getD n.toNat default) else lstD (headU k n p ++ unpDs l)
def unpDs : List Core → List Datum
  | [] => []
  | c :: r => unpD c :: unpDs r
end
theorem unpDs_eq : ∀ l, unpDs l = l.map unpD
  | [] => by simp [unpDs]
  | c :: r => by rw [unpDs, unpDs_eq r]; rfl
theorem unpD_eq (c : Core) : unpD c = if c.kind = 1 then lstD [symD quoteS, c.datum] else if c.kind = 2 then varD c.number else if c.kind = 3 then symD (primNames.getD c.number.toNat default) else lstD (headU c.kind c.number c.params ++ c.kids.map unpD) := by
  cases c; simp only [unpD, unpDs_eq]
theorem prim_sym : ∀ n : Nat, n < 14 → isSym (primNames.getD n default) = true := by decide +kernel
theorem wrd_sym : isSym quoteS = true ∧ isSym setS = true ∧ isSym lambdaS = true ∧ isSym ifS = true ∧ isSym beginS = true ∧ isSym localS = true ∧ isSym resetS = true ∧ isSym shiftS = true := by decide +kernel
theorem var_snoc (L : List Int) (n : Int) : (L.map varD).map datumC ++ [[cI 1, cI 0, cS (varT n), Cell.list []]] = ((L ++ [n]).map varD).map datumC := by
  simp only [List.map_append, List.map_cons, List.map_nil, datumC_eq]; rfl
theorem okV_kid {c : Core} (h : okV c = true) : ∀ x ∈ c.kids, okV x = true := by
  rw [okV_eq, Bool.and_eq_true, List.all_eq_true] at h; exact h.1
theorem okC_kid {c : Core} (h : okC c = true) : ∀ x ∈ c.kids, okC x = true := by
  rw [okC_eq, Bool.and_eq_true, List.all_eq_true] at h; exact h.1
theorem okD_w : ∀ d : Datum, okD d = true → wD d + 1 ≤ 40 * sizeD d := by
  refine Datum.ind fun d ih hd => ?_
  rw [okD_eq, Bool.and_eq_true, List.all_eq_true] at hd
  have h1 : d.items.length + sumBy wD d.items ≤ 40 * sumBy sizeD d.items := by
    have h0 : ∀ x ∈ d.items, wD x + 1 ≤ 40 * sizeD x := fun x hx => ih x hx (hd.1 x hx)
    revert h0; generalize d.items = L; intro h0
    induction L with
    | nil => simp [sumBy]
    | cons x r ihr => have := ihr fun y hy => h0 y (List.mem_cons_of_mem _ hy); have := h0 x List.mem_cons_self; simp only [sumBy, List.length_cons]; omega
  have h5 := nod_txt hd.2
  rw [wD_eq, sizeD_eq]
  omega
theorem isDat_w {d : Datum} (h : isDat d = true) : wD d ≤ 24000 := by
  simp only [isDat, Bool.and_eq_true, decide_eq_true_eq] at h
  have := okD_w d h.2; omega
theorem unpD_1 {c : Core} (h : c.kind = 1) : unpD c = lstD [symD quoteS, c.datum] := by rw [unpD_eq, if_pos h]
theorem unpD_2 {c : Core} (h : c.kind = 2) : unpD c = ⟨1, 0, varT c.number, []⟩ := by rw [unpD_eq, if_neg (by omega), if_pos h]; rfl
theorem unpD_3 {c : Core} (h : c.kind = 3) : unpD c = ⟨1, 0, primNames.getD c.number.toNat default, []⟩ := by rw [unpD_eq, if_neg (by omega), if_neg (by omega), if_pos h]; rfl
theorem unpD_4 {c : Core} (h1 : ¬ c.kind = 1) (h2 : ¬ c.kind = 2) (h3 : ¬ c.kind = 3) : unpD c = ⟨0, 0, mkS [], headU c.kind c.number c.params ++ c.kids.map unpD⟩ := by rw [unpD_eq, if_neg h1, if_neg h2, if_neg h3]; rfl
theorem unp_row1 {c : Core} (h : c.kind = 1) : (unpD c).items.map datumC = [[cI 1, cI 0, cS (mkS [113, 117, 111, 116, 101]), Cell.list []], datumF c.datum] := by
  rw [unpD_1 h]; simp only [lstD, symD, List.map_cons, List.map_nil, datumC_eq]; rfl
theorem head_row4 {c : Core} (h : c.kind = 4) : (headU c.kind c.number c.params).map datumC = [[cI 1, cI 0, cS (mkS [115, 101, 116, 33]), Cell.list []], [cI 1, cI 0, cS (varT c.number), Cell.list []]] := by
  unfold headU; rw [if_pos h]; simp only [varD, symD, List.map_cons, List.map_nil, datumC_eq]; rfl
theorem head_row5 {c : Core} (h : c.kind = 5) : (headU c.kind c.number c.params).map datumC = [[cI 1, cI 0, cS (mkS [108, 97, 109, 98, 100, 97]), Cell.list []], [cI 0, cI 0, cS (mkS []), Cell.list ((c.params.map varD).map datumC)]] := by
  unfold headU; rw [if_neg (by omega), if_pos h]; simp only [lstD, symD, List.map_cons, List.map_nil, datumC_eq]; rfl
theorem head_row9 {c : Core} (h : c.kind = 9) : (headU c.kind c.number c.params).map datumC = [[cI 1, cI 0, cS (mkS [108, 111, 99, 97, 108]), Cell.list []], [cI 0, cI 0, cS (mkS []), Cell.list ((c.params.map varD).map datumC)]] := by
  unfold headU; rw [if_neg (by omega), if_neg (by omega), if_neg (by omega), if_neg (by omega), if_pos h]; simp only [lstD, symD, List.map_cons, List.map_nil, datumC_eq]; rfl
theorem head_row7 {c : Core} (h : c.kind = 7) : (headU c.kind c.number c.params).map datumC = [[cI 1, cI 0, cS (mkS [105, 102]), Cell.list []]] := by
  unfold headU; rw [if_neg (by omega), if_neg (by omega), if_pos h]; simp only [symD, List.map_cons, List.map_nil, datumC_eq]; rfl
theorem head_row8 {c : Core} (h : c.kind = 8) : (headU c.kind c.number c.params).map datumC = [[cI 1, cI 0, cS (mkS [98, 101, 103, 105, 110]), Cell.list []]] := by
  unfold headU; rw [if_neg (by omega), if_neg (by omega), if_neg (by omega), if_pos h]; simp only [symD, List.map_cons, List.map_nil, datumC_eq]; rfl
theorem head_row10 {c : Core} (h : c.kind = 10) : (headU c.kind c.number c.params).map datumC = [[cI 1, cI 0, cS (mkS [114, 101, 115, 101, 116]), Cell.list []]] := by
  unfold headU; rw [if_neg (by omega), if_neg (by omega), if_neg (by omega), if_neg (by omega), if_neg (by omega), if_pos h]; simp only [symD, List.map_cons, List.map_nil, datumC_eq]; rfl
theorem head_row11 {c : Core} (h : c.kind = 11) : (headU c.kind c.number c.params).map datumC = [[cI 1, cI 0, cS (mkS [115, 104, 105, 102, 116]), Cell.list []], [cI 1, cI 0, cS (varT (c.params.getD 0 0)), Cell.list []]] := by
  unfold headU; rw [if_neg (by omega), if_neg (by omega), if_neg (by omega), if_neg (by omega), if_neg (by omega), if_neg (by omega), if_pos h]; simp only [varD, symD, List.map_cons, List.map_nil, datumC_eq]; rfl
theorem headU_len (k n : Int) (p : List Int) : (headU k n p).length ≤ 2 := by
  unfold headU
  repeat' split
  all_goals simp
theorem prim_at {n : Nat} (h : n < 14) : (primNames.map strC)[n]? = some [cS (primNames.getD n default)] := by
  have h1 : n < primNames.length := h
  simp [strC, h1]
theorem okC_num {c : Core} (h : okC c = true) : c.kids.length ≤ 60 ∧ c.params.length ≤ 60 ∧ (c.kind = 1 → isDat c.datum = true ∧ wD c.datum ≤ 1048576) := by
  rw [okC_eq, Bool.and_eq_true] at h
  have h1 := h.2
  simp only [shI, shC, Bool.and_eq_true] at h1
  have h2 := h1.1.2
  have h3 := @isDat_w c.datum
  repeat' split at h2
  all_goals simp only [Bool.and_eq_true, decide_eq_true_eq, Bool.false_eq_true] at h2
  all_goals refine ⟨by omega, by omega, fun e => ?_⟩
  all_goals first | exact ⟨h2.2, by have := h3 h2.2; omega⟩ | omega
theorem par_11 {c : Core} (h1 : okC c = true) (h2 : okV c = true) (hk : c.kind = 11) : (c.params.map intC)[0]? = some [cI (c.params.getD 0 0)] ∧ smI (c.params.getD 0 0) = true := by
  rw [okC_eq, Bool.and_eq_true] at h1
  rw [okV_eq, Bool.and_eq_true, Bool.and_eq_true, List.all_eq_true (p := smI)] at h2
  have h6 := h1.2
  simp only [shI, shC, Bool.and_eq_true] at h6
  have h7 := h6.1.2
  rw [hk] at h7; simp only [Bool.and_eq_true, decide_eq_true_eq] at h7; simp at h7
  have hl : c.params.length = 1 := by omega
  obtain ⟨x, e⟩ := List.length_eq_one_iff.1 hl
  rw [e] at h2 ⊢
  exact ⟨rfl, h2.2.2 x (by simp)⟩
abbrev P_c_sSymD (s : ByteArray) : Ct := ⟨80, [], [ls s], [], .sv (.agg [vI 1, vI 0, vS s, .val (.lit (.slice none 0 0))])⟩
theorem c_sSymD (s : ByteArray) (h : isSym s = true)  : P_c_sSymD s := fnOK Tryd.call80 Tryd.func80 (.c [.rd] (c_sIsSymbol s) (.b (!isSym s) (.s (SV.agg [vI 0, vI 0, vS (ByteArray.mk
 #[]), AC.val (Cell.lit (Value.slice none 0 0))])) (.s (SV.agg [vI 1, vI 0, vS s, AC.val (Cell.lit (Value.slice none 0 0))])))) (by
  dsimp only [teasy, P_c_sSymD]
  with_reducible repeat' (first | apply And.intro | exact zR | (intro; skip))
  all_goals (try simp only [std, inj] at *)
  all_goals with_reducible repeat' apply And.intro
  all_goals (try (first | exact z | grind [snocI, snocS, rowSnoc])))
abbrev P_c_sVar (n : Int) : Ct := ⟨79, [], [li n], [], .sv (.agg [vI 1, vI 0, vS (varT n), .val (.lit (.slice none 0 0))])⟩
theorem c_sVar (n : Int) (h : smI n = true)  : P_c_sVar n := fnOK Tryd.call79 Tryd.func79 (.d [.rd] (P_c_sNum n) (.p (1 + (Lib.itoa n).length ≤ 9223372036854775807) (.s (SV.agg [vI
 1, vI 0, vS (ByteArray.mk ([(118 : UInt8)] ++ Lib.itoa n).toArray), AC.val (Cell.lit (Value.slice none 0 0))])))) (by
  dsimp only [teasy, P_c_sVar]
  rw [smI_iff] at h
  have g := itoa_len (n := n) (by omega)
  with_reducible repeat' (first | apply And.intro | exact zR | (intro; skip) | apply c_sNum)
  all_goals (try simp only [std, inj] at *)
  all_goals with_reducible repeat' apply And.intro
  all_goals (try (first | with_reducible apply c_sNum | (simp only [← List.map_append]; first | with_reducible apply c_sNum)))
  all_goals (try (first | exact z | grind [varT, snocI, snocS, rowSnoc])))
abbrev P_c_sVars (L : List Int) : Ct := ⟨83, [], [ll (L.map intC)], [.arr true 4 ((L.map varD).map datumC)], .sv (lstR 0)⟩
def lc_sVarsLa (L : List Int) : Lp Nat := .mk 22 0 (fun x => [(2, SV.one (AC.ptr 0 0)), (3, SV.one (AC.ptr 1 0)), (7, ll (List.map intC L)), (8, li (↑(List.map intC L).length :
 Int)), (9, hs x 0)]) (fun x => [Ob.box [vI 0, vI 0, vS (ByteArray.mk #[]), AC.val (Cell.lit (Value.slice none 0 0))], Ob.box [vI 0, vI 0, vS (ByteArray.mk #[]), AC.ref 2], ho x
 1]) (fun k => [.s (li (↑k : Int)), .o (Ob.arr true 4 (List.map datumC (List.map varD (List.take k L))))]) (fun k => k ≤ L.length ∧ L.length ≤ 9223372036854775807 ∧ L.length ≤
 2147483647 ∧ L.all smI = true) (fun k => L.length - k) [.mk True (.exit 0) (fun x => [(2, SV.one (AC.ptr 0 0)), (3, SV.one (AC.ptr 1 0))]) (fun x => [Ob.box [vI 0, vI 0, vS
 (ByteArray.mk #[]), AC.val (Cell.lit (Value.slice none 0 0))], Ob.box [vI 0, vI 0, vS (ByteArray.mk #[]), AC.ref 2], ho x 0]) [.o (Ob.arr true 4 (List.map datumC (List.map varD
 L)))]]
theorem Sc_sVarsLa (L : List Int) (h : L.length ≤ 2147483647 ∧ L.all smI = true) : Lp.Sem Tryd.prog (loopAt Tryd.f83 0) (lc_sVarsLa L) := lpOK (fun k => .i ((↑k : Int) <
 (↑(List.map intC L).length : Int)) (.x (↑k : Int) (List.map intC L) [cI (L.getD k 0)] (.w (.draw [(5, [2, 11]), (7, [1])]) (.d [.rd] (P_c_sVar (L.getD k 0)) (.p (((List.map datumC
 (List.map varD (List.take k L))).length + 1) * 56 ≤ 140737488355328) (.r ((↑k : Int) + 1) (.g [0, 1, 12] (k + 1) [.s (li ((↑k : Int) + 1)), .o (Ob.arr true 4 (List.map datumC
 (List.map varD (List.take k L)) ++ [[cI 1, cI 0, cS (varT (L.getD k 0)), Cell.list []]]))])))))) (.o 0 [0, 1, 2] [.o (Ob.arr true 4 (List.map datumC (List.map varD (List.take k
 L))))])) (by
  intro k h; try dsimp only [teasy, nthW, lc_sVarsLa] at h ⊢
  with_reducible repeat' (first | apply And.intro | exact zR | (intro; skip) | apply c_sVar)
  all_goals (try simp only [std, inj] at *)
  all_goals with_reducible repeat' apply And.intro
  all_goals (try (first | with_reducible apply c_sVar | (simp only [← List.map_append]; first | with_reducible apply c_sVar)))
  all_goals (try (first | exact z | grind [take_get, var_snoc, getD_mem', List.all_eq_true, snocI, snocS, rowSnoc, getD_mem'])))
theorem c_sVars (L : List Int) (h : L.length ≤ 2147483647 ∧ L.all smI = true)  : P_c_sVars L := fnOK Tryd.call83 Tryd.func83 (.z intC L (.w (.ghost (.nilbox 1 3 true 4)) (.l
 (lc_sVarsLa L) (Sc_sVarsLa L h) [0, 1, 2] [.s (li 0), .o (Ob.arr true 4 [])] 0 (.t (.f [2] [Ob.arr true 4 (List.map datumC (List.map varD L))] (AV.sv (SV.agg [vI 0, vI 0, vS
 (ByteArray.mk #[]), AC.ref 0]))) .q)))) (by
  dsimp only [teasy, P_c_sVars, nthW, lc_sVarsLa]
  with_reducible repeat' (first | apply And.intro | exact zR | (intro; skip) | apply c_sVar)
  all_goals (try simp only [std, inj] at *)
  all_goals with_reducible repeat' apply And.intro
  all_goals (try (first | with_reducible apply c_sVar | (simp only [← List.map_append]; first | with_reducible apply c_sVar)))
  all_goals (try (first | exact z | grind [snocI, snocS, rowSnoc])))
abbrev P_c_sUnp (c : Core) : Ct := ⟨43, [], [coreA c], datumO (unpD c), .sv (datumR (unpD c) 0)⟩
def lc_sUnp_sLa (c : Core) : Lp Nat := .mk 103 0 (fun x => [(2, SV.one (AC.ptr 0 0)), (5, SV.one (AC.ptr 1 0)), (88, ll (List.map coreC c.kids)), (89, li (↑(List.map coreC
 c.kids).length : Int)), (90, hs x 0)]) (fun x => [Ob.box [vI 0, vI 0, vS (ByteArray.mk #[]), AC.val (Cell.lit (Value.slice none 0 0))], Ob.box [vI 0, vI 0, vS (ByteArray.mk #[]),
 AC.ref 2], ho x 1]) (fun k => [.s (li (↑k : Int)), .o (Ob.arr true 4 (List.map datumC (headU c.kind c.number c.params ++ List.map unpD (List.take k c.kids))))]) (fun k => k ≤
 c.kids.length ∧ c.kids.length ≤ 9223372036854775807 ∧ okC c = true ∧ okV c = true) (fun k => c.kids.length - k) [.mk True (.exit 1) (fun x => [(2, SV.one (AC.ptr 0 0)), (5, SV.one
 (AC.ptr 1 0))]) (fun x => [Ob.box [vI 0, vI 0, vS (ByteArray.mk #[]), AC.val (Cell.lit (Value.slice none 0 0))], Ob.box [vI 0, vI 0, vS (ByteArray.mk #[]), AC.ref 2], ho x 0]) [.o
 (Ob.arr true 4 (List.map datumC (headU c.kind c.number c.params ++ List.map unpD c.kids)))]]
theorem Sc_sUnp_sLa (c : Core) (h : okC c = true ∧ okV c = true) (ih : ∀ (z : Core), z ∈ c.kids → okC z = true ∧ okV z = true → OK (P_c_sUnp z)) : Lp.Sem Tryd.prog (loopAt Tryd.f43
 0) (lc_sUnp_sLa c) := lpOK (fun k => .i ((↑k : Int) < (↑(List.map coreC c.kids).length : Int)) (.x (↑k : Int) (List.map coreC c.kids) (coreF (c.kids.getD k default)) (.w (.draw
 [(4, [4]), (5, [2, 12]), (7, [1])]) (.d [.rd] (P_c_sUnp (c.kids.getD k default)) (.p (((List.map datumC (headU c.kind c.number c.params ++ List.map unpD (List.take k
 c.kids))).length + 1) * 56 ≤ 140737488355328) (.r ((↑k : Int) + 1) (.g [0, 1, 13] (k + 1) [.s (li ((↑k : Int) + 1)), .o (Ob.arr true 4 (List.map datumC (headU c.kind c.number
 c.params ++ List.map unpD (List.take k c.kids)) ++ [datumF (unpD (c.kids.getD k default))]))])))))) (.o 0 [0, 1, 2] [.o (Ob.arr true 4 (List.map datumC (headU c.kind c.number
 c.params ++ List.map unpD (List.take k c.kids))))])) (by
  intro k h; try dsimp only [teasy, nthW, lc_sUnp_sLa] at h ⊢
  have g1 := @okC_num c
  have g2 := headU_len c.kind c.number c.params
  have g3 := @okV_kid c
  have g4 := @okC_kid c
  with_reducible repeat' (first | apply And.intro | exact zR | exact ih | (intro; skip) | apply c_sVar | apply c_sVars | apply c_sSymD | apply c_sCopyD | apply ih)
  all_goals (try simp only [std, inj] at *)
  all_goals with_reducible repeat' apply And.intro
  all_goals (try (first | with_reducible apply c_sVar | with_reducible apply c_sVars | with_reducible apply c_sSymD | with_reducible apply c_sCopyD | with_reducible apply ih | (simp only [← List.map_append]; first | with_reducible apply c_sVar | with_reducible apply c_sVars | with_reducible apply c_sSymD | with_reducible apply c_sCopyD | with_reducible apply ih)))
  all_goals (try (first | exact z | grind [take_get, getD_mem', snocI, snocS, rowSnoc, getD_mem'])))
theorem c_sUnp_s (c : Core) (h : okC c = true ∧ okV c = true) (ih : ∀ z ∈ c.kids, ∀ (h : okC z = true ∧ okV z = true), P_c_sUnp z)  : P_c_sUnp c := fnOK Tryd.call43 Tryd.func43 (let
 v1 := [Ob.arr true 4 (List.map datumC (headU c.kind c.number c.params ++ List.map unpD c.kids))]; let v2 := (AV.sv (SV.agg [vI 0, vI 0, vS (ByteArray.mk #[]), AC.ref 0])); let v3
 := (56 ≤ 140737488355328); let v4 := (Sc_sUnp_sLa c h ih); let v5 := (primNames.getD c.number.toNat default); let v6 := (112 ≤ 140737488355328); let v7 := (ByteArray.mk #[(108 :
 UInt8), (97 : UInt8), (109 : UInt8), (98 : UInt8), (100 : UInt8), (97 : UInt8)]); let v8 := [(5, [12]), (7, [3])]; let v9 := [cI 0, cI 0, cS (mkS []), Cell.list (List.map datumC
 (List.map varD c.params))]; let v10 := (ByteArray.mk #[(115 : UInt8), (104 : UInt8), (105 : UInt8), (102 : UInt8), (116 : UInt8)]); let v11 := (ByteArray.mk #[(114 : UInt8), (101
 : UInt8), (115 : UInt8), (101 : UInt8), (116 : UInt8)]); let v12 := (ByteArray.mk #[(113 : UInt8), (117 : UInt8), (111 : UInt8), (116 : UInt8), (101 : UInt8)]); let v13 :=
 (ByteArray.mk #[(98 : UInt8), (101 : UInt8), (103 : UInt8), (105 : UInt8), (110 : UInt8)]); let v14 := (ByteArray.mk #[(108 : UInt8), (111 : UInt8), (99 : UInt8), (97 : UInt8),
 (108 : UInt8)]); .w (.bool false) (.i (c.kind = 2) (.d [.rd] (P_c_sVar c.number) (.w (.ghost (.nilbox 1 3 true 4)) (.f [3] [Ob.arr true 4 []] (AV.sv (SV.agg [vI 1, vI 0, vS (varT
 c.number), AC.ref 0]))))) (.i (c.kind = 3) (.w (.draw [(6, [1])]) (.c [] c_sPrimitiveNames (.p (0 ≤ c.number ∧ c.number.toNat < 14) (.w (.cells (strC v5)) (.p ((List.map strC
 primNames)[c.number.toNat]? = some [cS v5]) (.d [.rd] (P_c_sSymD v5) (.w (.ghost (.nilbox 1 3 true 4)) (.f [4] [Ob.arr true 4 []] (AV.sv (SV.agg [vI 1, vI 0, vS v5, AC.ref
 0])))))))))) (.i (c.kind = 1) (.w (.draw [(4, [11]), (6, [1])]) (.d [.rd] (P_c_sSymD v12) (.d [.rd] (P_c_sCopyD c.datum) (.f [19] [Ob.arr true 4 [[cI 1, cI 0, cS v12, Cell.list
 []], datumF c.datum]] v2)))) (.i (c.kind = 4) (.d [.rd] (P_c_sVar c.number) (.p v3 (.y true (.w (.draw [(5, [14]), (7, [5])]) (.d [.rd] (P_c_sSymD (ByteArray.mk #[(115 : UInt8),
 (101 : UInt8), (116 : UInt8), (33 : UInt8)])) (.w (.bool true) (.p v3 (.p v6 (.z coreC c.kids (.l (lc_sUnp_sLa c) v4 [1, 5, 16] [.s (li 0), .o (Ob.arr true 4 [[cI 1, cI 0, cS
 (ByteArray.mk #[(115 : UInt8), (101 : UInt8), (116 : UInt8), (33 : UInt8)]), Cell.list []], [cI 1, cI 0, cS (varT c.number), Cell.list []]])] 0 (.t (.f [2] v1 v2) .q)))))))))))
 (.i (c.kind = 5) (.d [.rd] (P_c_sVars c.params) (.p v3 (.y true (.w (.draw [(5, [15]), (7, [6])]) (.d [.rd] (P_c_sSymD v7) (.w (.bool true) (.p v3 (.p v6 (.z coreC c.kids (.l
 (lc_sUnp_sLa c) v4 [1, 6, 17] [.s (li 0), .o (Ob.arr true 4 [[cI 1, cI 0, cS v7, Cell.list []], v9])] 0 (.t (.f [2] v1 v2) .q))))))))))) (.i (c.kind = 7) (.y true (.w (.draw v8)
 (.d [.rd] (P_c_sSymD (ByteArray.mk #[(105 : UInt8), (102 : UInt8)])) (.w (.bool true) (.p v3 (.p v3 (.z coreC c.kids (.l (lc_sUnp_sLa c) v4 [1, 3, 14] [.s (li 0), .o (Ob.arr true
 4 [[cI 1, cI 0, cS (ByteArray.mk #[(105 : UInt8), (102 : UInt8)]), Cell.list []]])] 0 (.t (.f [2] v1 v2) .q))))))))) (.i (c.kind = 8) (.y true (.w (.draw v8) (.d [.rd] (P_c_sSymD
 v13) (.w (.bool true) (.p v3 (.p v3 (.z coreC c.kids (.l (lc_sUnp_sLa c) v4 [1, 3, 14] [.s (li 0), .o (Ob.arr true 4 [[cI 1, cI 0, cS v13, Cell.list []]])] 0 (.t (.f [2] v1 v2)
 .q))))))))) (.i (c.kind = 9) (.d [.rd] (P_c_sVars c.params) (.p v3 (.y true (.w (.draw [(5, [15]), (7, [6])]) (.d [.rd] (P_c_sSymD v14) (.w (.bool true) (.p v3 (.p v6 (.z coreC
 c.kids (.l (lc_sUnp_sLa c) v4 [1, 6, 17] [.s (li 0), .o (Ob.arr true 4 [[cI 1, cI 0, cS v14, Cell.list []], v9])] 0 (.t (.f [2] v1 v2) .q))))))))))) (.i (c.kind = 10) (.y true (.w
 (.draw v8) (.d [.rd] (P_c_sSymD v11) (.w (.bool true) (.p v3 (.p v3 (.z coreC c.kids (.l (lc_sUnp_sLa c) v4 [1, 3, 14] [.s (li 0), .o (Ob.arr true 4 [[cI 1, cI 0, cS v11,
 Cell.list []]])] 0 (.t (.f [2] v1 v2) .q))))))))) (.i (c.kind = 11) (.w (.cells (intC (c.params.getD 0 default))) (.p ((0 : Int) ≤ 0 ∧ (List.map intC c.params)[0]? = some [cI
 (c.params.getD 0 0)]) (.d [.rd] (P_c_sVar (c.params.getD 0 0)) (.p v3 (.y true (.w (.draw [(5, [14]), (7, [5])]) (.d [.rd] (P_c_sSymD v10) (.w (.bool true) (.p v3 (.p v6 (.z coreC
 c.kids (.l (lc_sUnp_sLa c) v4 [1, 5, 16] [.s (li 0), .o (Ob.arr true 4 [[cI 1, cI 0, cS v10, Cell.list []], [cI 1, cI 0, cS (varT (c.params.getD 0 0)), Cell.list []]])] 0 (.t (.f
 [2] v1 v2) .q))))))))))))) (.y false (.w (.bool true) (.p (0 ≤ 140737488355328) (.z coreC c.kids (.l (lc_sUnp_sLa c) v4 [1, 3, 4] [.s (li 0), .o (Ob.arr true 4 [])] 0 (.t (.f [2]
 v1 v2) .q))))))))))))))))) (by
  dsimp only [teasy, P_c_sUnp, nthW, lc_sUnp_sLa]
  have g1 := @okC_num c
  have g2 := okV_eq c
  have g3 := okC_eq c
  have g4 := @unpD_1 c
  have g5 := @unpD_2 c
  have g6 := @unpD_3 c
  have g7 := @unpD_4 c
  have g8 := wrd_sym
  have g9 := prim_sym c.number.toNat
  have g10 := @prim_at c.number.toNat
  have g11 := @unp_row1 c
  have g12 := @head_row4 c
  have g14 := @head_row5 c
  have g15 := @head_row9 c
  have g16 := @head_row7 c
  have g17 := @head_row8 c
  have g18 := @head_row10 c
  have g19 := @head_row11 c
  have g20 := @par_11 c
  have g13 : isSym (mkS [113, 117, 111, 116, 101]) = true := wrd_sym.1
  with_reducible repeat' (first | apply And.intro | exact zR | exact ih | (intro; skip) | apply c_sVar | apply c_sVars | apply c_sSymD | apply c_sCopyD)
  all_goals (try simp only [std, inj] at *)
  all_goals with_reducible repeat' apply And.intro
  all_goals (try (first | with_reducible apply c_sVar | with_reducible apply c_sVars | with_reducible apply c_sSymD | with_reducible apply c_sCopyD | with_reducible apply ih | (simp only [← List.map_append]; first | with_reducible apply c_sVar | with_reducible apply c_sVars | with_reducible apply c_sSymD | with_reducible apply c_sCopyD | with_reducible apply ih)))
  all_goals (try (first | exact z | grind [shI, shC, headU, symD, lstD, varD, snocI, snocS, rowSnoc])))
theorem c_sUnp (c : Core) : ∀ (h : okC c = true ∧ okV c = true), P_c_sUnp c := Core.ind (P := fun c => ∀ (h : okC c = true ∧ okV c = true), P_c_sUnp c) (fun c ih h => c_sUnp_s c h ih) c
abbrev P_c_iVar (n : Int) : Ct := ⟨90, [], [li n], [], .sv (.agg [vI 1, vI 0, vS (varT n), .val (.lit (.slice none 0 0))])⟩
theorem c_iVar (n : Int) (h : smI n = true)  : P_c_iVar n := fnOK Tryd.call90 Tryd.func90 (.d [.rd] (P_c_iNum n) (.p (1 + (Lib.itoa n).length ≤ 9223372036854775807) (.c [.rd]
 (c_iSymbolOf (ByteArray.mk ([(118 : UInt8)] ++ Lib.itoa n).toArray)) (.s (SV.agg [vI 1, vI 0, vS (ByteArray.mk ([(118 : UInt8)] ++ Lib.itoa n).toArray), AC.val (Cell.lit
 (Value.slice none 0 0))]))))) (by
  dsimp only [teasy, P_c_iVar]
  rw [smI_iff] at h
  have g := itoa_len (n := n) (by omega)
  with_reducible repeat' (first | apply And.intro | exact zR | (intro; skip) | apply c_iNum)
  all_goals (try simp only [std, inj] at *)
  all_goals with_reducible repeat' apply And.intro
  all_goals (try (first | with_reducible apply c_iNum | (simp only [← List.map_append]; first | with_reducible apply c_iNum)))
  all_goals (try (first | exact z | grind [varT, snocI, snocS, rowSnoc])))
abbrev P_c_iVars (L : List Int) : Ct := ⟨92, [], [ll (L.map intC)], [.arr true 4 ((L.map varD).map datumC)], .sv (lstR 0)⟩
def lc_iVarsLa (L : List Int) : Lp Nat := .mk 21 0 (fun x => [(2, SV.one (AC.ptr 0 0)), (3, SV.one (AC.ptr 1 0)), (6, ll (List.map intC L)), (7, li (↑(List.map intC L).length :
 Int)), (8, hs x 0)]) (fun x => [Ob.box [vI 0, vI 0, vS (ByteArray.mk #[]), AC.val (Cell.lit (Value.slice none 0 0))], Ob.box [vI 0, vI 0, vS (ByteArray.mk #[]), AC.ref 2], ho x
 1]) (fun k => [.s (li (↑k : Int)), .o (Ob.arr true 4 (List.map datumC (List.map varD (List.take k L))))]) (fun k => k ≤ L.length ∧ L.length ≤ 9223372036854775807 ∧ L.length ≤
 2147483647 ∧ L.all smI = true) (fun k => L.length - k) [.mk True (.exit 0) (fun x => [(2, SV.one (AC.ptr 0 0)), (3, SV.one (AC.ptr 1 0))]) (fun x => [Ob.box [vI 0, vI 0, vS
 (ByteArray.mk #[]), AC.val (Cell.lit (Value.slice none 0 0))], Ob.box [vI 0, vI 0, vS (ByteArray.mk #[]), AC.ref 2], ho x 0]) [.o (Ob.arr true 4 (List.map datumC (List.map varD
 L)))]]
theorem Sc_iVarsLa (L : List Int) (h : L.length ≤ 2147483647 ∧ L.all smI = true) : Lp.Sem Tryd.prog (loopAt Tryd.f92 0) (lc_iVarsLa L) := lpOK (fun k => .i ((↑k : Int) <
 (↑(List.map intC L).length : Int)) (.x (↑k : Int) (List.map intC L) [cI (L.getD k 0)] (.w (.draw [(5, [2, 11]), (7, [1])]) (.d [.rd] (P_c_iVar (L.getD k 0)) (.p (((List.map datumC
 (List.map varD (List.take k L))).length + 1) * 56 ≤ 140737488355328) (.r ((↑k : Int) + 1) (.g [0, 1, 12] (k + 1) [.s (li ((↑k : Int) + 1)), .o (Ob.arr true 4 (List.map datumC
 (List.map varD (List.take k L)) ++ [[cI 1, cI 0, cS (varT (L.getD k 0)), Cell.list []]]))])))))) (.o 0 [0, 1, 2] [.o (Ob.arr true 4 (List.map datumC (List.map varD (List.take k
 L))))])) (by
  intro k h; try dsimp only [teasy, nthW, lc_iVarsLa] at h ⊢
  with_reducible repeat' (first | apply And.intro | exact zR | (intro; skip) | apply c_iVar)
  all_goals (try simp only [std, inj] at *)
  all_goals with_reducible repeat' apply And.intro
  all_goals (try (first | with_reducible apply c_iVar | (simp only [← List.map_append]; first | with_reducible apply c_iVar)))
  all_goals (try (first | exact z | grind [take_get, var_snoc, getD_mem', List.all_eq_true, snocI, snocS, rowSnoc, getD_mem'])))
theorem c_iVars (L : List Int) (h : L.length ≤ 2147483647 ∧ L.all smI = true)  : P_c_iVars L := fnOK Tryd.call92 Tryd.func92 (.z intC L (.w (.ghost (.nilbox 1 3 true 4)) (.l
 (lc_iVarsLa L) (Sc_iVarsLa L h) [0, 1, 2] [.s (li 0), .o (Ob.arr true 4 [])] 0 (.t (.f [2] [Ob.arr true 4 (List.map datumC (List.map varD L))] (AV.sv (SV.agg [vI 0, vI 0, vS
 (ByteArray.mk #[]), AC.ref 0]))) .q)))) (by
  dsimp only [teasy, P_c_iVars, nthW, lc_iVarsLa]
  with_reducible repeat' (first | apply And.intro | exact zR | (intro; skip) | apply c_iVar)
  all_goals (try simp only [std, inj] at *)
  all_goals with_reducible repeat' apply And.intro
  all_goals (try (first | with_reducible apply c_iVar | (simp only [← List.map_append]; first | with_reducible apply c_iVar)))
  all_goals (try (first | exact z | grind [snocI, snocS, rowSnoc])))
abbrev P_c_iUnp (c : Core) : Ct := ⟨49, [], [coreA c], datumO (unpD c), .sv (datumR (unpD c) 0)⟩
def lc_iUnp_sLa (c : Core) : Lp Nat := .mk 86 0 (fun x => [(2, SV.one (AC.ptr 0 0)), (3, SV.one (AC.ref 1)), (72, ll (List.map coreC c.kids)), (73, li (↑(List.map coreC
 c.kids).length : Int)), (74, hs x 0)]) (fun x => [Ob.box [vI 0, vI 0, vS (ByteArray.mk #[]), AC.val (Cell.lit (Value.slice none 0 0))], ho x 1]) (fun k => [.s (li (↑k : Int)), .o
 (Ob.arr true 4 (List.map datumC (headU c.kind c.number c.params ++ List.map unpD (List.take k c.kids))))]) (fun k => k ≤ c.kids.length ∧ c.kids.length ≤ 9223372036854775807 ∧ okC
 c = true ∧ okV c = true) (fun k => c.kids.length - k) [.mk True (.exit 1) (fun x => [(2, SV.one (AC.ptr 0 0)), (3, SV.one (AC.ref 1))]) (fun x => [Ob.box [vI 0, vI 0, vS
 (ByteArray.mk #[]), AC.val (Cell.lit (Value.slice none 0 0))], ho x 0]) [.o (Ob.arr true 4 (List.map datumC (headU c.kind c.number c.params ++ List.map unpD c.kids)))]]
theorem Sc_iUnp_sLa (c : Core) (h : okC c = true ∧ okV c = true) (ih : ∀ (z : Core), z ∈ c.kids → okC z = true ∧ okV z = true → OK (P_c_iUnp z)) : Lp.Sem Tryd.prog (loopAt Tryd.f49
 0) (lc_iUnp_sLa c) := lpOK (fun k => .i ((↑k : Int) < (↑(List.map coreC c.kids).length : Int)) (.x (↑k : Int) (List.map coreC c.kids) (coreF (c.kids.getD k default)) (.d [.rd]
 (P_c_iUnp (c.kids.getD k default)) (.p (((List.map datumC (headU c.kind c.number c.params ++ List.map unpD (List.take k c.kids))).length + 1) * 56 ≤ 140737488355328) (.r ((↑k :
 Int) + 1) (.g [0, 5] (k + 1) [.s (li ((↑k : Int) + 1)), .o (Ob.arr true 4 (List.map datumC (headU c.kind c.number c.params ++ List.map unpD (List.take k c.kids)) ++ [datumF (unpD
 (c.kids.getD k default))]))]))))) (.o 0 [0, 1] [.o (Ob.arr true 4 (List.map datumC (headU c.kind c.number c.params ++ List.map unpD (List.take k c.kids))))])) (by
  intro k h; try dsimp only [teasy, nthW, lc_iUnp_sLa] at h ⊢
  have g1 := @okC_num c
  have g2 := headU_len c.kind c.number c.params
  have g3 := @okV_kid c
  have g4 := @okC_kid c
  with_reducible repeat' (first | apply And.intro | exact zR | exact ih | (intro; skip) | apply c_iVar | apply c_iVars | apply c_iCopyDatum | apply ih)
  all_goals (try simp only [std, inj] at *)
  all_goals with_reducible repeat' apply And.intro
  all_goals (try (first | with_reducible apply c_iVar | with_reducible apply c_iVars | with_reducible apply c_iCopyDatum | with_reducible apply ih | (simp only [← List.map_append]; first | with_reducible apply c_iVar | with_reducible apply c_iVars | with_reducible apply c_iCopyDatum | with_reducible apply ih)))
  all_goals (try (first | exact z | grind [take_get, getD_mem', snocI, snocS, rowSnoc, getD_mem'])))
theorem c_iUnp_s (c : Core) (h : okC c = true ∧ okV c = true) (ih : ∀ z ∈ c.kids, ∀ (h : okC z = true ∧ okV z = true), P_c_iUnp z)  : P_c_iUnp c := fnOK Tryd.call49 Tryd.func49 (let
 v1 := [Ob.arr true 4 (List.map datumC (headU c.kind c.number c.params ++ List.map unpD c.kids))]; let v2 := (AV.sv (SV.agg [vI 0, vI 0, vS (ByteArray.mk #[]), AC.ref 0])); let v3
 := (Sc_iUnp_sLa c h ih); let v4 := (primNames.getD c.number.toNat default); let v5 := (ByteArray.mk #[(108 : UInt8), (97 : UInt8), (109 : UInt8), (98 : UInt8), (100 : UInt8), (97
 : UInt8)]); let v6 := [cI 0, cI 0, cS (mkS []), Cell.list (List.map datumC (List.map varD c.params))]; let v7 := (ByteArray.mk #[(115 : UInt8), (104 : UInt8), (105 : UInt8), (102
 : UInt8), (116 : UInt8)]); let v8 := (ByteArray.mk #[(114 : UInt8), (101 : UInt8), (115 : UInt8), (101 : UInt8), (116 : UInt8)]); let v9 := (ByteArray.mk #[(113 : UInt8), (117 :
 UInt8), (111 : UInt8), (116 : UInt8), (101 : UInt8)]); let v10 := (ByteArray.mk #[(98 : UInt8), (101 : UInt8), (103 : UInt8), (105 : UInt8), (110 : UInt8)]); let v11 :=
 (ByteArray.mk #[(108 : UInt8), (111 : UInt8), (99 : UInt8), (97 : UInt8), (108 : UInt8)]); .i (c.kind = 1) (.w (.draw [(4, [10]), (6, [1])]) (.c [.rd] (c_iSymbolOf v9) (.d [.rd]
 (P_c_iCopyDatum c.datum) (.f [18] [Ob.arr true 4 [[cI 1, cI 0, cS v9, Cell.list []], datumF c.datum]] v2)))) (.i (c.kind = 2) (.d [.rd] (P_c_iVar c.number) (.w (.ghost (.nilbox 1
 3 true 4)) (.f [2] [Ob.arr true 4 []] (AV.sv (SV.agg [vI 1, vI 0, vS (varT c.number), AC.ref 0]))))) (.i (c.kind = 3) (.w (.draw [(6, [1])]) (.c [] c_iPrimitiveNames (.p (0 ≤
 c.number ∧ c.number.toNat < 14) (.w (.cells (strC v4)) (.p ((List.map strC primNames)[c.number.toNat]? = some [cS v4]) (.c [.rd] (c_iSymbolOf v4) (.w (.ghost (.nilbox 1 3 true 4))
 (.f [3] [Ob.arr true 4 []] (AV.sv (SV.agg [vI 1, vI 0, vS v4, AC.ref 0])))))))))) (.i (c.kind = 4) (.w (.draw []) (.c [.rd] (c_iSymbolOf (ByteArray.mk #[(115 : UInt8), (101 :
 UInt8), (116 : UInt8), (33 : UInt8)])) (.d [.rd] (P_c_iVar c.number) (.z coreC c.kids (.l (lc_iUnp_sLa c) v3 [1, 18] [.s (li 0), .o (Ob.arr true 4 [[cI 1, cI 0, cS (ByteArray.mk
 #[(115 : UInt8), (101 : UInt8), (116 : UInt8), (33 : UInt8)]), Cell.list []], [cI 1, cI 0, cS (varT c.number), Cell.list []]])] 0 (.t (.f [1] v1 v2) .q)))))) (.i (c.kind = 5) (.w
 (.draw [(4, [10])]) (.c [.rd] (c_iSymbolOf v5) (.d [.rd] (P_c_iVars c.params) (.z coreC c.kids (.l (lc_iUnp_sLa c) v3 [1, 18] [.s (li 0), .o (Ob.arr true 4 [[cI 1, cI 0, cS v5,
 Cell.list []], v6])] 0 (.t (.f [1] v1 v2) .q)))))) (.i (c.kind = 7) (.c [.rd] (c_iSymbolOf (ByteArray.mk #[(105 : UInt8), (102 : UInt8)])) (.z coreC c.kids (.l (lc_iUnp_sLa c) v3
 [1, 2] [.s (li 0), .o (Ob.arr true 4 [[cI 1, cI 0, cS (ByteArray.mk #[(105 : UInt8), (102 : UInt8)]), Cell.list []]])] 0 (.t (.f [1] v1 v2) .q)))) (.i (c.kind = 8) (.c [.rd]
 (c_iSymbolOf v10) (.z coreC c.kids (.l (lc_iUnp_sLa c) v3 [1, 2] [.s (li 0), .o (Ob.arr true 4 [[cI 1, cI 0, cS v10, Cell.list []]])] 0 (.t (.f [1] v1 v2) .q)))) (.i (c.kind = 9)
 (.w (.draw [(4, [10])]) (.c [.rd] (c_iSymbolOf v11) (.d [.rd] (P_c_iVars c.params) (.z coreC c.kids (.l (lc_iUnp_sLa c) v3 [1, 18] [.s (li 0), .o (Ob.arr true 4 [[cI 1, cI 0, cS
 v11, Cell.list []], v6])] 0 (.t (.f [1] v1 v2) .q)))))) (.i (c.kind = 10) (.c [.rd] (c_iSymbolOf v8) (.z coreC c.kids (.l (lc_iUnp_sLa c) v3 [1, 2] [.s (li 0), .o (Ob.arr true 4
 [[cI 1, cI 0, cS v8, Cell.list []]])] 0 (.t (.f [1] v1 v2) .q)))) (.i (c.kind = 11) (.w (.draw []) (.c [.rd] (c_iSymbolOf v7) (.w (.cells (intC (c.params.getD 0 default))) (.p ((0
 : Int) ≤ 0 ∧ (List.map intC c.params)[0]? = some [cI (c.params.getD 0 0)]) (.d [.rd] (P_c_iVar (c.params.getD 0 0)) (.z coreC c.kids (.l (lc_iUnp_sLa c) v3 [1, 18] [.s (li 0), .o
 (Ob.arr true 4 [[cI 1, cI 0, cS v7, Cell.list []], [cI 1, cI 0, cS (varT (c.params.getD 0 0)), Cell.list []]])] 0 (.t (.f [1] v1 v2) .q)))))))) (.z coreC c.kids (.w (.ghost
 (.nilreg 3 true 4)) (.l (lc_iUnp_sLa c) v3 [1, 2] [.s (li 0), .o (Ob.arr true 4 [])] 0 (.t (.f [1] v1 v2) .q)))))))))))))) (by
  dsimp only [teasy, P_c_iUnp, nthW, lc_iUnp_sLa]
  have g1 := @okC_num c
  have g2 := okV_eq c
  have g3 := okC_eq c
  have g4 := @unpD_1 c
  have g5 := @unpD_2 c
  have g6 := @unpD_3 c
  have g7 := @unpD_4 c
  have g8 := wrd_sym
  have g9 := prim_sym c.number.toNat
  have g10 := @prim_at c.number.toNat
  have g11 := @unp_row1 c
  have g12 := @head_row4 c
  have g14 := @head_row5 c
  have g15 := @head_row9 c
  have g16 := @head_row7 c
  have g17 := @head_row8 c
  have g18 := @head_row10 c
  have g19 := @head_row11 c
  have g20 := @par_11 c
  have g13 : isSym (mkS [113, 117, 111, 116, 101]) = true := wrd_sym.1
  with_reducible repeat' (first | apply And.intro | exact zR | exact ih | (intro; skip) | apply c_iVar | apply c_iVars | apply c_iCopyDatum)
  all_goals (try simp only [std, inj] at *)
  all_goals with_reducible repeat' apply And.intro
  all_goals (try (first | with_reducible apply c_iVar | with_reducible apply c_iVars | with_reducible apply c_iCopyDatum | with_reducible apply ih | (simp only [← List.map_append]; first | with_reducible apply c_iVar | with_reducible apply c_iVars | with_reducible apply c_iCopyDatum | with_reducible apply ih)))
  all_goals (try (first | exact z | grind [shI, shC, headU, symD, lstD, varD, snocI, snocS, rowSnoc])))
theorem c_iUnp (c : Core) : ∀ (h : okC c = true ∧ okV c = true), P_c_iUnp c := Core.ind (P := fun c => ∀ (h : okC c = true ∧ okV c = true), P_c_iUnp c) (fun c ih h => c_iUnp_s c h ih) c
theorem varT_sym {n : Int} (h : smI n = true) : isSym (varT n) = true := by
  rw [smI_iff] at h
  have e : Lib.itoa n = Lib.decDigits n.natAbs := itoa_pos h.1
  have h5 : (10 : Nat) ^ (4 + 1) = 100000 := by decide
  have h1 := dec_len 4 n.natAbs (by omega)
  have h2 := dec_dig n.natAbs
  have ht : (varT n).data.toList = 118 :: Lib.decDigits n.natAbs := by show [118] ++ Lib.itoa n = _; rw [e]; rfl
  have hs : (varT n).size = 1 + (Lib.decDigits n.natAbs).length := by rw [← tx_len, ht, List.length_cons]; omega
  unfold isSym
  rw [ht, hs]
  simp only [Bool.and_eq_true, decide_eq_true_eq, List.all_cons]
  refine ⟨⟨⟨by omega, by rw [List.getD_cons_zero]; decide⟩, by simp⟩, by decide, ?_⟩
  rw [List.all_eq_true]
  intro b hb
  have := h2 b hb
  simp only [isMk, isDig, Bool.or_eq_true, decide_eq_true_eq]
  exact .inl (.inr (by omega))
theorem okD_sym {s : ByteArray} (h : isSym s = true) : okD (symD s) = true := by
  rw [okD_eq]; simp [symD, nodD, h]
theorem okD_lst {L : List Datum} (h : ∀ x ∈ L, okD x = true) : okD (lstD L) = true := by
  rw [okD_eq, Bool.and_eq_true, List.all_eq_true]
  exact ⟨h, by simp [lstD, nodD, tx_mkS]⟩
theorem size_sym (s : ByteArray) : sizeD (symD s) = 1 := by rw [sizeD_eq]; rfl
theorem size_lst (L : List Datum) : sizeD (lstD L) = sumBy sizeD L + 1 := by rw [sizeD_eq]; rfl
theorem head_ok {k n : Int} {p : List Int} (h1 : k = 4 → smI n = true) (h2 : ∀ m ∈ p, smI m = true) (h3 : k = 11 → p.length = 1) (h4 : p.length ≤ 60) : (∀ x ∈ headU k n p, okD x = true) ∧ sumBy sizeD (headU k n p) ≤ 70 := by
  have w := wrd_sym
  have hp : ∀ x ∈ p.map varD, okD x = true := fun x hx => by obtain ⟨m, hm, rfl⟩ := List.mem_map.1 hx; exact okD_sym (varT_sym (h2 m hm))
  have hs : sumBy sizeD (p.map varD) = p.length := by
    have : ∀ L : List Int, sumBy sizeD (L.map varD) = L.length := by
      intro L; induction L with
      | nil => rfl
      | cons x r ih => simp only [List.map_cons, sumBy, ih, varD, size_sym, List.length_cons]; omega
    exact this p
  have two : ∀ {s : ByteArray} {d : Datum}, isSym s = true → okD d = true → sizeD d ≤ 65 → (∀ x ∈ [symD s, d], okD x = true) ∧ sumBy sizeD [symD s, d] ≤ 70 := fun hs' hd hz => by
    refine ⟨fun x hx => ?_, by simp only [sumBy, size_sym]; omega⟩
    rcases List.mem_cons.1 hx with rfl | hx
    · exact okD_sym hs'
    · rw [List.mem_singleton.1 hx]; exact hd
  have one : ∀ {s : ByteArray}, isSym s = true → (∀ x ∈ [symD s], okD x = true) ∧ sumBy sizeD [symD s] ≤ 70 := fun hs' => ⟨fun x hx => by rw [List.mem_singleton.1 hx]; exact okD_sym hs', by simp only [sumBy, size_sym]; omega⟩
  unfold headU
  split
  · rename_i h; exact two w.2.1 (okD_sym (varT_sym (h1 h))) (by rw [varD, size_sym]; omega)
  split
  · exact two w.2.2.1 (okD_lst hp) (by rw [size_lst, hs]; omega)
  split
  · exact one w.2.2.2.1
  split
  · exact one w.2.2.2.2.1
  split
  · exact two w.2.2.2.2.2.1 (okD_lst hp) (by rw [size_lst, hs]; omega)
  split
  · exact one w.2.2.2.2.2.2.1
  split
  · rename_i h
    have hl := h3 h
    have hm : p.getD 0 0 ∈ p := by have := getD_mem' (L := p) (k := 0) (by omega); exact this
    exact two w.2.2.2.2.2.2.2 (okD_sym (varT_sym (h2 _ hm))) (by rw [varD, size_sym]; omega)
  · exact ⟨by simp, by simp [sumBy]⟩
theorem unp_ok : ∀ c : Core, okC c = true → okV c = true → okD (unpD c) = true ∧ sizeD (unpD c) ≤ 700 * sizeC c := by
  refine Core.ind fun c ih h1 h2 => ?_
  have hk := okC_num h1
  have hc := h1
  have hv := h2
  rw [okC_eq, Bool.and_eq_true] at hc
  rw [okV_eq, Bool.and_eq_true, Bool.and_eq_true, Bool.or_eq_true, List.all_eq_true (p := smI)] at hv
  rw [unpD_eq, sizeC_eq]
  split
  · rename_i h
    have hd := (hk.2.2 h).1
    simp only [isDat, Bool.and_eq_true, decide_eq_true_eq] at hd
    refine ⟨okD_lst fun x hx => ?_, by rw [size_lst]; simp only [sumBy, size_sym]; omega⟩
    rcases List.mem_cons.1 hx with rfl | hx
    · exact okD_sym wrd_sym.1
    · rw [List.mem_singleton.1 hx]; exact hd.2
  split
  · rename_i h
    have : smI c.number = true := by rcases hv.2.1 with a | a; simp [h] at a; exact a
    exact ⟨okD_sym (varT_sym this), by rw [varD, size_sym]; omega⟩
  split
  · rename_i h
    have h5 := hc.2
    simp only [shI, shC, Bool.and_eq_true] at h5
    have h6 := h5.1.2
    rw [if_neg (by omega), if_neg (by omega), if_pos h] at h6
    simp only [Bool.and_eq_true, decide_eq_true_eq] at h6
    exact ⟨okD_sym (prim_sym _ (by omega)), by rw [size_sym]; omega⟩
  · have h5 := hc.2
    simp only [shI, shC, Bool.and_eq_true] at h5
    have h6 := h5.1.2
    have hh := head_ok (k := c.kind) (n := c.number) (p := c.params) (fun e => by rcases hv.2.1 with a | a; simp [e] at a; exact a) hv.2.2 (fun e => by
      rw [e] at h6; simp only [Bool.and_eq_true, decide_eq_true_eq] at h6; simp at h6; omega) hk.2.1
    have hkid : ∀ x ∈ c.kids, okD (unpD x) = true ∧ sizeD (unpD x) ≤ 700 * sizeC x := fun x hx => ih x hx (okC_kid h1 x hx) (okV_kid h2 x hx)
    refine ⟨okD_lst fun x hx => ?_, ?_⟩
    · rcases List.mem_append.1 hx with hx | hx
      · exact hh.1 x hx
      · obtain ⟨y, hy, rfl⟩ := List.mem_map.1 hx; exact (hkid y hy).1
    · rw [size_lst, sumBy_append]
      have : ∀ L : List Core, (∀ x ∈ L, sizeD (unpD x) ≤ 700 * sizeC x) → sumBy sizeD (L.map unpD) ≤ 700 * sumBy sizeC L := by
        intro L; induction L with
        | nil => intro _; simp [sumBy]
        | cons x r ihr => intro h; have := ihr fun y hy => h y (List.mem_cons_of_mem _ hy); have := h x List.mem_cons_self; simp only [List.map_cons, sumBy]; omega
      have := this c.kids fun x hx => (hkid x hx).2
      omega
theorem val_unp {c : Core} (h : valC c = true) : okD (unpD c) = true ∧ sizeD (unpD c) ≤ 2100000 := by
  have h1 := valC_K h
  have h2 := unp_ok c h1.1 (valC_V h)
  exact ⟨h2.1, by omega⟩
def fmC (c : Core) : List UInt8 := if valC c then fmtD (unpD c) else []
abbrev P_c_sFmtC (c : Core) : Ct := ⟨13, [], [coreA c], [], .sv (ls (mkS (fmC c)))⟩
theorem c_sFmtC (c : Core) (h : wC c ≤ 90000000)  : P_c_sFmtC c := fnOK Tryd.call13 Tryd.func13 (.d [.rd] (P_c_sValid c) (.b (!valC c) (.s (ls (ByteArray.mk #[]))) (.d [.rd]
 (P_c_sUnp c) (.d [.rd] (P_c_sFmt (unpD c)) (.s (ls (mkS (fmtD (unpD c))))))))) (by
  dsimp only [teasy, P_c_sFmtC]
  have g1 := @valC_V c
  have g2 := @valC_K c
  have g3 := @val_unp c
  with_reducible repeat' (first | apply And.intro | exact zR | (intro; skip) | apply c_sValid | apply c_sUnp | apply c_sFmt)
  all_goals (try simp only [std, inj] at *)
  all_goals with_reducible repeat' apply And.intro
  all_goals (try (first | with_reducible apply c_sValid | with_reducible apply c_sUnp | with_reducible apply c_sFmt | (simp only [← List.map_append]; first | with_reducible apply c_sValid | with_reducible apply c_sUnp | with_reducible apply c_sFmt)))
  all_goals (try (first | exact z | grind [fmC, snocI, snocS, rowSnoc])))
abbrev P_c_iFmtC (c : Core) : Ct := ⟨15, [], [coreA c], [], .sv (ls (mkS (fmC c)))⟩
theorem c_iFmtC (c : Core) (h : wC c ≤ 90000000)  : P_c_iFmtC c := fnOK Tryd.call15 Tryd.func15 (.d [.rd] (P_c_iValid c) (.b (!valC c) (.s (ls (ByteArray.mk #[]))) (.d [.rd]
 (P_c_iUnp c) (.d [.own true 1, .rd] (P_c_iWrite [] (unpD c)) (.w (.bytes (fmtD (unpD c))) (.p (List.map byteC (fmtD (unpD c)) = List.map byteC (fmtD (unpD c))) (.s (ls
 (ByteArray.mk (fmtD (unpD c)).toArray))))))))) (by
  dsimp only [teasy, P_c_iFmtC]
  have g1 := @valC_V c
  have g2 := @valC_K c
  have g3 := @val_unp c
  with_reducible repeat' (first | apply And.intro | exact zR | (intro; skip) | apply c_iValid | apply c_iUnp | apply c_iWrite)
  all_goals (try simp only [std, inj] at *)
  all_goals with_reducible repeat' apply And.intro
  all_goals (try (first | with_reducible apply c_iValid | with_reducible apply c_iUnp | with_reducible apply c_iWrite | (simp only [← List.map_append]; first | with_reducible apply c_iValid | with_reducible apply c_iUnp | with_reducible apply c_iWrite)))
  all_goals (try (first | exact z | grind [fmC, snocI, snocS, rowSnoc])))
end Go.Proofs.YtpflccjienojfaaDoor
end
section
namespace Go.Proofs.YtpflccjienojfaaDoor
open Go Go.Proofs.YtpflccjienojfaaDoor.Ab
set_option linter.unusedVariables false
set_option linter.unusedSimpArgs false
set_option maxHeartbeats 4000000
abbrev P_c_szIntS (L : List Int) (left : Int) : Ct := ⟨39, [], [ll (L.map intC), li left], [], .sv (li (sz L.length left))⟩
theorem c_szIntS (L : List Int) (left : Int) (h0 : 0 ≤ left) (h : left ≤ 2147483647)  : P_c_szIntS L left := fnOK Tryd.call39 Tryd.func39 (.z intC L (.r (left - (↑(List.map intC
 L).length : Int)) (.i (left - (↑(List.map intC L).length : Int) < 0) (.s (li (-1 : Int))) (.s (li (left - (↑(List.map intC L).length : Int))))))) (by
  dsimp only [teasy, P_c_szIntS]
  with_reducible repeat' (first | apply And.intro | exact zR | (intro; skip))
  all_goals (try simp only [std, inj] at *)
  all_goals with_reducible repeat' apply And.intro
  all_goals (try (first | exact z | grind [sz, snocI, snocS, rowSnoc])))
abbrev P_c_szDatumS (L : List Datum) (left : Int) : Ct := ⟨29, [], [ll (L.map datumC), li left], [], .sv (li (sz (L.length + sumBy wD L) left))⟩
abbrev P_c_szDatum (x : Datum) (left : Int) : Ct := ⟨40, [], [datumA x, li left], [], .sv (li (sz (wD x) left))⟩
def lc_szDatumSLa (L : List Datum) (left : Int) : Lp (Nat × Int) := .mk 27 0 (fun x => [(0, ll (List.map datumC L)), (1, hs x 1), (5, hs x 0)]) (fun x => []) (fun k => [.s (li
 (↑k.fst : Int)), .s (li k.snd)]) (fun k => k.fst ≤ L.length ∧ L.length ≤ 9223372036854775807 ∧ 0 ≤ k.snd ∧ k.snd ≤ left ∧ sz (sumBy wD (List.drop k.fst L)) k.snd = sz (L.length +
 sumBy wD L) left) (fun k => L.length - k.fst) [.mk (0 ≤ sz (L.length + sumBy wD L) left) (.exit 0) (fun x => [(1, hs x 0)]) (fun x => []) [.s (li (sz (L.length + sumBy wD L)
 left))], .mk (sz (L.length + sumBy wD L) left = (-1 : Int)) .ret (fun x => [(4, hs x 0)]) (fun x => []) [.s (li (-1 : Int))]]
theorem Sc_szDatumSLa (L : List Datum) (left : Int) (h0 : 0 ≤ left) (h : left ≤ 2147483647) (ih : ∀ (x : Datum), x ∈ L → ∀ (left : Int), 0 ≤ left → left ≤ 2147483647 → OK
 (P_c_szDatum x left)) : Lp.Sem Tryd.prog (loopAt Tryd.f29 0) (lc_szDatumSLa L left) := lpOK (fun k => .z datumC L (.i ((↑k.fst : Int) < (↑(List.map datumC L).length : Int)) (.x
 (↑k.fst : Int) (List.map datumC L) (datumF (L.getD k.fst default)) (.d [.rd, .rd] (P_c_szDatum (L.getD k.fst default) k.snd) (.i (sz (wD (L.getD k.fst default)) k.snd < 0) (.o 1
 [] [.s (li (-1 : Int))]) (.r ((↑k.fst : Int) + 1) (.g [] (k.fst + 1, sz (wD (L.getD k.fst default)) k.snd) [.s (li ((↑k.fst : Int) + 1)), .s (li (sz (wD (L.getD k.fst default))
 k.snd))]))))) (.o 0 [] [.s (li k.snd)]))) (by
  intro k h; try dsimp only [teasy, nthW, lc_szDatumSLa] at h ⊢
  obtain ⟨i, n⟩ := k
  simp only at *
  with_reducible repeat' (first | apply And.intro | exact zR | exact ih | (intro; skip) | apply ih)
  all_goals (try simp only [std, inj] at *)
  all_goals with_reducible repeat' apply And.intro
  all_goals (try (first | with_reducible apply ih | (simp only [← List.map_append]; first | with_reducible apply ih)))
  all_goals (try (first | exact z | grind [drop_get, sumBy, sz, getD_mem', snocI, snocS, rowSnoc])))
theorem c_szDatumS (L : List Datum) (left : Int) (h0 : 0 ≤ left) (h : left ≤ 2147483647) (ih : ∀ x ∈ L, ∀ (left : Int) (h0 : 0 ≤ left) (h : left ≤ 2147483647), P_c_szDatum x left) 
 : P_c_szDatumS L left := fnOK Tryd.call29 Tryd.func29 (.z datumC L (.r (left - (↑(List.map datumC L).length : Int)) (.i (left - (↑(List.map datumC L).length : Int) < 0) (.s (li (-1
 : Int))) (.l (lc_szDatumSLa L left) (Sc_szDatumSLa L left h0 h ih) [] [.s (li 0), .s (li (left - (↑(List.map datumC L).length : Int)))] (0, left - (↑L.length : Int)) (.t (.s (li
 (sz (L.length + sumBy wD L) left))) (.t (.s (li (-1 : Int))) .q)))))) (by
  dsimp only [teasy, P_c_szDatumS, nthW, lc_szDatumSLa]
  with_reducible repeat' (first | apply And.intro | exact zR | exact ih | (intro; skip))
  all_goals (try simp only [std, inj] at *)
  all_goals with_reducible repeat' apply And.intro
  all_goals (try (first | with_reducible apply ih | (simp only [← List.map_append]; first | with_reducible apply ih)))
  all_goals (try (first | exact z | grind [sz, snocI, snocS, rowSnoc])))
theorem c_szDatum_s (x : Datum) (left : Int) (h0 : 0 ≤ left) (h : left ≤ 2147483647) (ih : ∀ z ∈ x.items, ∀ (left : Int) (h0 : 0 ≤ left) (h : left ≤ 2147483647), P_c_szDatum z
 left)  : P_c_szDatum x left := fnOK Tryd.call40 Tryd.func40 (.h (x.text.data.toList.length ≤ 9223372036854775807) (.r (left - (↑x.text.data.toList.length : Int)) (.i (left -
 (↑x.text.data.toList.length : Int) < 0) (.s (li (-1 : Int))) (.d [.rd, .rd] (P_c_szDatumS x.items (left - (↑x.text.data.toList.length : Int))) (.i (sz (x.items.length + sumBy wD
 x.items) (left - (↑x.text.data.toList.length : Int)) < 0) (.s (li (-1 : Int))) (.s (li (sz (x.items.length + sumBy wD x.items) (left - (↑x.text.data.toList.length : Int))))))))))
 (by
  dsimp only [teasy, P_c_szDatum]
  with_reducible repeat' (first | apply And.intro | exact zR | exact ih | (intro; skip) | apply c_szDatumS | apply ih)
  all_goals (try simp only [std, inj] at *)
  all_goals with_reducible repeat' apply And.intro
  all_goals (try (first | with_reducible apply c_szDatumS | with_reducible apply ih | (simp only [← List.map_append]; first | with_reducible apply c_szDatumS | with_reducible apply ih)))
  all_goals (try (first | exact z | grind [wD_eq, sz, wS, snocI, snocS, rowSnoc])))
theorem c_szDatum (x : Datum) : ∀ (left : Int) (h0 : 0 ≤ left) (h : left ≤ 2147483647), P_c_szDatum x left := Datum.ind (P := fun x => ∀ (left : Int) (h0 : 0 ≤ left) (h : left ≤ 2147483647), P_c_szDatum x left) (fun x ih left h0 h => c_szDatum_s x left h0 h ih) x
abbrev P_c_szCoreS (L : List Core) (left : Int) : Ct := ⟨41, [], [ll (L.map coreC), li left], [], .sv (li (sz (L.length + sumBy wC L) left))⟩
abbrev P_c_szCore (x : Core) (left : Int) : Ct := ⟨12, [], [coreA x, li left], [], .sv (li (sz (wC x) left))⟩
def lc_szCoreSLa (L : List Core) (left : Int) : Lp (Nat × Int) := .mk 27 0 (fun x => [(0, ll (List.map coreC L)), (1, hs x 1), (5, hs x 0)]) (fun x => []) (fun k => [.s (li (↑k.fst
 : Int)), .s (li k.snd)]) (fun k => k.fst ≤ L.length ∧ L.length ≤ 9223372036854775807 ∧ 0 ≤ k.snd ∧ k.snd ≤ left ∧ sz (sumBy wC (List.drop k.fst L)) k.snd = sz (L.length + sumBy wC
 L) left) (fun k => L.length - k.fst) [.mk (0 ≤ sz (L.length + sumBy wC L) left) (.exit 0) (fun x => [(1, hs x 0)]) (fun x => []) [.s (li (sz (L.length + sumBy wC L) left))], .mk
 (sz (L.length + sumBy wC L) left = (-1 : Int)) .ret (fun x => [(4, hs x 0)]) (fun x => []) [.s (li (-1 : Int))]]
theorem Sc_szCoreSLa (L : List Core) (left : Int) (h0 : 0 ≤ left) (h : left ≤ 2147483647) (ih : ∀ (x : Core), x ∈ L → ∀ (left : Int), 0 ≤ left → left ≤ 2147483647 → OK (P_c_szCore
 x left)) : Lp.Sem Tryd.prog (loopAt Tryd.f41 0) (lc_szCoreSLa L left) := lpOK (fun k => .z coreC L (.i ((↑k.fst : Int) < (↑(List.map coreC L).length : Int)) (.x (↑k.fst : Int)
 (List.map coreC L) (coreF (L.getD k.fst default)) (.d [.rd, .rd] (P_c_szCore (L.getD k.fst default) k.snd) (.i (sz (wC (L.getD k.fst default)) k.snd < 0) (.o 1 [] [.s (li (-1 :
 Int))]) (.r ((↑k.fst : Int) + 1) (.g [] (k.fst + 1, sz (wC (L.getD k.fst default)) k.snd) [.s (li ((↑k.fst : Int) + 1)), .s (li (sz (wC (L.getD k.fst default)) k.snd))]))))) (.o 0
 [] [.s (li k.snd)]))) (by
  intro k h; try dsimp only [teasy, nthW, lc_szCoreSLa] at h ⊢
  obtain ⟨i, n⟩ := k
  simp only at *
  with_reducible repeat' (first | apply And.intro | exact zR | exact ih | (intro; skip) | apply ih)
  all_goals (try simp only [std, inj] at *)
  all_goals with_reducible repeat' apply And.intro
  all_goals (try (first | with_reducible apply ih | (simp only [← List.map_append]; first | with_reducible apply ih)))
  all_goals (try (first | exact z | grind [drop_get, sumBy, sz, getD_mem', snocI, snocS, rowSnoc])))
theorem c_szCoreS (L : List Core) (left : Int) (h0 : 0 ≤ left) (h : left ≤ 2147483647) (ih : ∀ x ∈ L, ∀ (left : Int) (h0 : 0 ≤ left) (h : left ≤ 2147483647), P_c_szCore x left)  :
 P_c_szCoreS L left := fnOK Tryd.call41 Tryd.func41 (.z coreC L (.r (left - (↑(List.map coreC L).length : Int)) (.i (left - (↑(List.map coreC L).length : Int) < 0) (.s (li (-1 :
 Int))) (.l (lc_szCoreSLa L left) (Sc_szCoreSLa L left h0 h ih) [] [.s (li 0), .s (li (left - (↑(List.map coreC L).length : Int)))] (0, left - (↑L.length : Int)) (.t (.s (li (sz
 (L.length + sumBy wC L) left))) (.t (.s (li (-1 : Int))) .q)))))) (by
  dsimp only [teasy, P_c_szCoreS, nthW, lc_szCoreSLa]
  with_reducible repeat' (first | apply And.intro | exact zR | exact ih | (intro; skip))
  all_goals (try simp only [std, inj] at *)
  all_goals with_reducible repeat' apply And.intro
  all_goals (try (first | with_reducible apply ih | (simp only [← List.map_append]; first | with_reducible apply ih)))
  all_goals (try (first | exact z | grind [sz, snocI, snocS, rowSnoc])))
theorem c_szCore_s (x : Core) (left : Int) (h0 : 0 ≤ left) (h : left ≤ 2147483647) (ih : ∀ z ∈ x.kids, ∀ (left : Int) (h0 : 0 ≤ left) (h : left ≤ 2147483647), P_c_szCore z left)  :
 P_c_szCore x left := fnOK Tryd.call12 Tryd.func12 (.d [.rd, .rd] (P_c_szIntS x.params left) (.i (sz x.params.length left < 0) (.s (li (-1 : Int))) (.d [.rd, .rd] (P_c_szDatum
 x.datum (sz x.params.length left)) (.i (sz (wD x.datum) (sz x.params.length left) < 0) (.s (li (-1 : Int))) (.d [.rd, .rd] (P_c_szCoreS x.kids (sz (wD x.datum) (sz x.params.length
 left))) (.i (sz (x.kids.length + sumBy wC x.kids) (sz (wD x.datum) (sz x.params.length left)) < 0) (.s (li (-1 : Int))) (.s (li (sz (x.kids.length + sumBy wC x.kids) (sz (wD
 x.datum) (sz x.params.length left))))))))))) (by
  dsimp only [teasy, P_c_szCore]
  with_reducible repeat' (first | apply And.intro | exact zR | exact ih | (intro; skip) | apply c_szIntS | apply c_szDatum | apply c_szCoreS | apply ih)
  all_goals (try simp only [std, inj] at *)
  all_goals with_reducible repeat' apply And.intro
  all_goals (try (first | with_reducible apply c_szIntS | with_reducible apply c_szDatum | with_reducible apply c_szCoreS | with_reducible apply ih | (simp only [← List.map_append]; first | with_reducible apply c_szIntS | with_reducible apply c_szDatum | with_reducible apply c_szCoreS | with_reducible apply ih)))
  all_goals (try (first | exact z | grind [wC_eq, sz, wS, snocI, snocS, rowSnoc])))
theorem c_szCore (x : Core) : ∀ (left : Int) (h0 : 0 ≤ left) (h : left ≤ 2147483647), P_c_szCore x left := Core.ind (P := fun x => ∀ (left : Int) (h0 : 0 ≤ left) (h : left ≤ 2147483647), P_c_szCore x left) (fun x ih left h0 h => c_szCore_s x left h0 h ih) x
end Go.Proofs.YtpflccjienojfaaDoor
end
section
namespace Go.Proofs.YtpflccjienojfaaDoor
open Go Go.Proofs.YtpflccjienojfaaDoor.Ab
set_option linter.unusedVariables false
set_option linter.unusedSimpArgs false
set_option maxHeartbeats 4000000
abbrev P_c_toIntS (L : List Int) : Ct := ⟨44, [], [ll (L.map intC)], [.arr true 1 (L.map intC)], .sv (.one (.ref 0))⟩
def lc_toIntSLa (L : List Int) : Lp Nat := .mk 22 0 (fun x => [(0, ll (List.map intC L)), (3, SV.one (AC.ref 0)), (4, hs x 0)]) (fun x => [ho x 1]) (fun k => [.s (li (↑k : Int)),
 .o (Ob.arr true 1 (List.map intC (fillTo L k)))]) (fun k => k ≤ L.length ∧ L.length ≤ 9223372036854775807) (fun k => L.length - k) [.mk True (.exit 0) (fun x => [(3, SV.one
 (AC.ref 0))]) (fun x => [ho x 0]) [.o (Ob.arr true 1 (List.map intC L))]]
theorem Sc_toIntSLa (L : List Int) (h : L.length ≤ 1048576) : Lp.Sem Tryd.prog (loopAt Tryd.f44 0) (lc_toIntSLa L) := lpOK (fun k => .z intC L (.i ((↑k : Int) < (↑(List.map intC
 L).length : Int)) (.x (↑k : Int) (List.map intC L) [cI (L.getD k 0)] (.p (0 ≤ (↑k : Int) ∧ (↑k : Int).toNat < (List.map intC (fillTo L k)).length) (.w (.cells (intC ((fillTo L
 k).getD (↑k : Int).toNat default))) (.p ((List.map intC (fillTo L k))[(↑k : Int).toNat]? = some [cI ((fillTo L k).getD (↑k : Int).toNat 0)]) (.r ((↑k : Int) + 1) (.g [0] (k + 1)
 [.s (li ((↑k : Int) + 1)), .o (Ob.arr true 1 ((List.map intC (fillTo L k)).set (↑k : Int).toNat [cI (L.getD k 0)]))])))))) (.o 0 [0] [.o (Ob.arr true 1 (List.map intC (fillTo L
 k)))]))) (by
  intro k h; try dsimp only [teasy, nthW, lc_toIntSLa] at h ⊢
  with_reducible repeat' (first | apply And.intro | exact zR | (intro; skip))
  all_goals (try simp only [std, inj] at *)
  all_goals with_reducible repeat' apply And.intro
  all_goals (try (first | exact z | exact zF | grind [fillTo_all, snocI, snocS, rowSnoc])))
theorem c_toIntS (L : List Int) (h : L.length ≤ 1048576)  : P_c_toIntS L := fnOK Tryd.call44 Tryd.func44 (.z intC L (.p (0 ≤ (↑(List.map intC L).length : Int) ∧ 8 * (↑(List.map intC
 L).length : Int).toNat ≤ 281474976710656) (.l (lc_toIntSLa L) (Sc_toIntSLa L h) [0] [.s (li 0), .o (Ob.arr true 1 (List.replicate (↑(List.map intC L).length : Int).toNat [cI 0]))]
 0 (.t (.f [0] [Ob.arr true 1 (List.map intC L)] (AV.sv (SV.one (AC.ref 0)))) .q)))) (by
  dsimp only [teasy, P_c_toIntS, nthW, lc_toIntSLa]
  with_reducible repeat' (first | apply And.intro | exact zR | (intro; skip))
  all_goals (try simp only [std, inj] at *)
  all_goals with_reducible repeat' apply And.intro
  all_goals (try (first | exact z | exact zF | grind [snocI, snocS, rowSnoc])))
abbrev P_c_toDatumS (L : List Datum) : Ct := ⟨33, [], [ll (L.map datumC)], [.arr true 4 (L.map datumC)], .sv (.one (.ref 0))⟩
abbrev P_c_toDatum (x : Datum) : Ct := ⟨45, [], [datumA x], datumO x, .sv (datumR x 0)⟩
def lc_toDatumSLa (L : List Datum) : Lp Nat := .mk 23 0 (fun x => [(0, ll (List.map datumC L)), (3, SV.one (AC.ref 0)), (4, hs x 0)]) (fun x => [ho x 1]) (fun k => [.s (li (↑k :
 Int)), .o (Ob.arr true 4 (List.map datumC (fillTo L k)))]) (fun k => k ≤ L.length ∧ L.length ≤ 9223372036854775807) (fun k => L.length - k) [.mk True (.exit 0) (fun x => [(3,
 SV.one (AC.ref 0))]) (fun x => [ho x 0]) [.o (Ob.arr true 4 (List.map datumC L))]]
theorem Sc_toDatumSLa (L : List Datum) (h : L.length + sumBy wD L ≤ 1048576) (ih : ∀ (x : Datum), x ∈ L → wD x ≤ 1048576 → OK (P_c_toDatum x)) : Lp.Sem Tryd.prog (loopAt Tryd.f33
 0) (lc_toDatumSLa L) := lpOK (fun k => .z datumC L (.i ((↑k : Int) < (↑(List.map datumC L).length : Int)) (.x (↑k : Int) (List.map datumC L) (datumF (L.getD k default)) (.d [.rd]
 (P_c_toDatum (L.getD k default)) (.p (0 ≤ (↑k : Int) ∧ (↑k : Int).toNat < (List.map datumC (fillTo L k)).length) (.w (.cells (datumF ((fillTo L k).getD (↑k : Int).toNat default)))
 (.p ((List.map datumC (fillTo L k))[(↑k : Int).toNat]? = some (datumF ((fillTo L k).getD (↑k : Int).toNat default))) (.r ((↑k : Int) + 1) (.g [0] (k + 1) [.s (li ((↑k : Int) +
 1)), .o (Ob.arr true 4 ((List.map datumC (fillTo L k)).set (↑k : Int).toNat (datumF (L.getD k default))))]))))))) (.o 0 [0] [.o (Ob.arr true 4 (List.map datumC (fillTo L k)))])))
 (by
  intro k h; try dsimp only [teasy, nthW, lc_toDatumSLa] at h ⊢
  with_reducible repeat' (first | apply And.intro | exact zR | exact ih | (intro; skip) | apply ih)
  all_goals (try simp only [std, inj] at *)
  all_goals with_reducible repeat' apply And.intro
  all_goals (try (first | with_reducible apply ih | (simp only [← List.map_append]; first | with_reducible apply ih)))
  all_goals (try (first | exact z | exact zF | grind [fillTo_all, getD_mem', sumBy_mem, snocI, snocS, rowSnoc])))
theorem c_toDatumS (L : List Datum) (h : L.length + sumBy wD L ≤ 1048576) (ih : ∀ x ∈ L, ∀ (h : wD x ≤ 1048576), P_c_toDatum x)  : P_c_toDatumS L := fnOK Tryd.call33 Tryd.func33 (.z
 datumC L (.p (0 ≤ (↑(List.map datumC L).length : Int) ∧ 56 * (↑(List.map datumC L).length : Int).toNat ≤ 281474976710656) (.l (lc_toDatumSLa L) (Sc_toDatumSLa L h ih) [0] [.s (li
 0), .o (Ob.arr true 4 (List.replicate (↑(List.map datumC L).length : Int).toNat [cI 0, cI 0, cS (ByteArray.mk #[]), Cell.list []]))] 0 (.t (.f [0] [Ob.arr true 4 (List.map datumC
 L)] (AV.sv (SV.one (AC.ref 0)))) .q)))) (by
  dsimp only [teasy, P_c_toDatumS, nthW, lc_toDatumSLa]
  with_reducible repeat' (first | apply And.intro | exact zR | exact ih | (intro; skip))
  all_goals (try simp only [std, inj] at *)
  all_goals with_reducible repeat' apply And.intro
  all_goals (try (first | with_reducible apply ih | (simp only [← List.map_append]; first | with_reducible apply ih)))
  all_goals (try (first | exact z | exact zF | grind [snocI, snocS, rowSnoc])))
theorem c_toDatum_s (x : Datum) (h : wD x ≤ 1048576) (ih : ∀ z ∈ x.items, ∀ (h : wD z ≤ 1048576), P_c_toDatum z)  : P_c_toDatum x := fnOK Tryd.call45 Tryd.func45 (.d [.rd]
 (P_c_toDatumS x.items) (.f [3] [Ob.arr true 4 (List.map datumC x.items)] (AV.sv (SV.agg [vI x.kind, vI x.number, vS x.text, AC.ref 0])))) (by
  dsimp only [teasy, P_c_toDatum]
  with_reducible repeat' (first | apply And.intro | exact zR | exact ih | (intro; skip) | apply c_toDatumS | apply ih)
  all_goals (try simp only [std, inj] at *)
  all_goals with_reducible repeat' apply And.intro
  all_goals (try (first | with_reducible apply c_toDatumS | with_reducible apply ih | (simp only [← List.map_append]; first | with_reducible apply c_toDatumS | with_reducible apply ih)))
  all_goals (try (first | exact z | exact zF | grind [wD_eq, wS, snocI, snocS, rowSnoc])))
theorem c_toDatum (x : Datum) : ∀ (h : wD x ≤ 1048576), P_c_toDatum x := Datum.ind (P := fun x => ∀ (h : wD x ≤ 1048576), P_c_toDatum x) (fun x ih h => c_toDatum_s x h ih) x
abbrev P_c_toCoreS (L : List Core) : Ct := ⟨46, [], [ll (L.map coreC)], [.arr true 8 (L.map coreC)], .sv (.one (.ref 0))⟩
abbrev P_c_toCore (x : Core) : Ct := ⟨14, [], [coreA x], coreO x, .sv (coreR x 0)⟩
def lc_toCoreSLa (L : List Core) : Lp Nat := .mk 23 0 (fun x => [(0, ll (List.map coreC L)), (3, SV.one (AC.ref 0)), (4, hs x 0)]) (fun x => [ho x 1]) (fun k => [.s (li (↑k :
 Int)), .o (Ob.arr true 8 (List.map coreC (fillTo L k)))]) (fun k => k ≤ L.length ∧ L.length ≤ 9223372036854775807) (fun k => L.length - k) [.mk True (.exit 0) (fun x => [(3,
 SV.one (AC.ref 0))]) (fun x => [ho x 0]) [.o (Ob.arr true 8 (List.map coreC L))]]
theorem Sc_toCoreSLa (L : List Core) (h : L.length + sumBy wC L ≤ 1048576) (ih : ∀ (x : Core), x ∈ L → wC x ≤ 1048576 → OK (P_c_toCore x)) : Lp.Sem Tryd.prog (loopAt Tryd.f46 0)
 (lc_toCoreSLa L) := lpOK (fun k => .z coreC L (.i ((↑k : Int) < (↑(List.map coreC L).length : Int)) (.x (↑k : Int) (List.map coreC L) (coreF (L.getD k default)) (.d [.rd]
 (P_c_toCore (L.getD k default)) (.p (0 ≤ (↑k : Int) ∧ (↑k : Int).toNat < (List.map coreC (fillTo L k)).length) (.w (.cells (coreF ((fillTo L k).getD (↑k : Int).toNat default)))
 (.p ((List.map coreC (fillTo L k))[(↑k : Int).toNat]? = some (coreF ((fillTo L k).getD (↑k : Int).toNat default))) (.r ((↑k : Int) + 1) (.g [0] (k + 1) [.s (li ((↑k : Int) + 1)),
 .o (Ob.arr true 8 ((List.map coreC (fillTo L k)).set (↑k : Int).toNat (coreF (L.getD k default))))]))))))) (.o 0 [0] [.o (Ob.arr true 8 (List.map coreC (fillTo L k)))]))) (by
  intro k h; try dsimp only [teasy, nthW, lc_toCoreSLa] at h ⊢
  with_reducible repeat' (first | apply And.intro | exact zR | exact ih | (intro; skip) | apply ih)
  all_goals (try simp only [std, inj] at *)
  all_goals with_reducible repeat' apply And.intro
  all_goals (try (first | with_reducible apply ih | (simp only [← List.map_append]; first | with_reducible apply ih)))
  all_goals (try (first | exact z | exact zF | grind [fillTo_all, getD_mem', sumBy_mem, snocI, snocS, rowSnoc])))
theorem c_toCoreS (L : List Core) (h : L.length + sumBy wC L ≤ 1048576) (ih : ∀ x ∈ L, ∀ (h : wC x ≤ 1048576), P_c_toCore x)  : P_c_toCoreS L := fnOK Tryd.call46 Tryd.func46 (.z
 coreC L (.p (0 ≤ (↑(List.map coreC L).length : Int) ∧ 120 * (↑(List.map coreC L).length : Int).toNat ≤ 281474976710656) (.l (lc_toCoreSLa L) (Sc_toCoreSLa L h ih) [0] [.s (li 0),
 .o (Ob.arr true 8 (List.replicate (↑(List.map coreC L).length : Int).toNat [cI 0, cI 0, Cell.list [], cI 0, cI 0, cS (ByteArray.mk #[]), Cell.list [], Cell.list []]))] 0 (.t (.f
 [0] [Ob.arr true 8 (List.map coreC L)] (AV.sv (SV.one (AC.ref 0)))) .q)))) (by
  dsimp only [teasy, P_c_toCoreS, nthW, lc_toCoreSLa]
  with_reducible repeat' (first | apply And.intro | exact zR | exact ih | (intro; skip))
  all_goals (try simp only [std, inj] at *)
  all_goals with_reducible repeat' apply And.intro
  all_goals (try (first | with_reducible apply ih | (simp only [← List.map_append]; first | with_reducible apply ih)))
  all_goals (try (first | exact z | exact zF | grind [snocI, snocS, rowSnoc])))
theorem c_toCore_s (x : Core) (h : wC x ≤ 1048576) (ih : ∀ z ∈ x.kids, ∀ (h : wC z ≤ 1048576), P_c_toCore z)  : P_c_toCore x := fnOK Tryd.call14 Tryd.func14 (.d [.rd] (P_c_toIntS
 x.params) (.d [.rd] (P_c_toDatum x.datum) (.d [.rd] (P_c_toCoreS x.kids) (.f [3, 4, 5] [Ob.arr true 1 (List.map intC x.params), Ob.arr true 4 (List.map datumC x.datum.items),
 Ob.arr true 8 (List.map coreC x.kids)] (AV.sv (SV.agg [vI x.kind, vI x.number, AC.ref 0, vI x.datum.kind, vI x.datum.number, vS x.datum.text, AC.ref 1, AC.ref 2])))))) (by
  dsimp only [teasy, P_c_toCore]
  with_reducible repeat' (first | apply And.intro | exact zR | exact ih | (intro; skip) | apply c_toIntS | apply c_toDatum | apply c_toCoreS | apply ih)
  all_goals (try simp only [std, inj] at *)
  all_goals with_reducible repeat' apply And.intro
  all_goals (try (first | with_reducible apply c_toIntS | with_reducible apply c_toDatum | with_reducible apply c_toCoreS | with_reducible apply ih | (simp only [← List.map_append]; first | with_reducible apply c_toIntS | with_reducible apply c_toDatum | with_reducible apply c_toCoreS | with_reducible apply ih)))
  all_goals (try (first | exact z | exact zF | grind [wC_eq, wS, snocI, snocS, rowSnoc])))
theorem c_toCore (x : Core) : ∀ (h : wC x ≤ 1048576), P_c_toCore x := Core.ind (P := fun x => ∀ (h : wC x ≤ 1048576), P_c_toCore x) (fun x ih h => c_toCore_s x h ih) x
end Go.Proofs.YtpflccjienojfaaDoor
end
section
namespace Go.Proofs.YtpflccjienojfaaDoor
open Go Go.Proofs.YtpflccjienojfaaDoor.Ab
set_option linter.unusedVariables false
set_option linter.unusedSimpArgs false
set_option maxHeartbeats 4000000
abbrev P_c_eqIntS (A : List Int) (B : List Int) : Ct := ⟨50, [], [ll (A.map intC), ll (B.map intC)], [], .sv (lb (decide (A = B)))⟩
def lc_eqIntSLa (A : List Int) (B : List Int) : Lp Nat := .mk 26 0 (fun x => [(0, ll (List.map intC A)), (1, ll (List.map intC B)), (5, hs x 0)]) (fun x => []) (fun k => [.s (li
 (↑k : Int))]) (fun k => k ≤ A.length ∧ A.length ≤ 9223372036854775807 ∧ A.length = B.length ∧ List.take k A = List.take k B) (fun k => A.length - k) [.mk (A = B) (.exit 0) (fun x
 => []) (fun x => []) [], .mk (A ≠ B) .ret (fun x => [(4, hs x 0)]) (fun x => []) [.s (lb false)]]
theorem Sc_eqIntSLa (A : List Int) (B : List Int) : Lp.Sem Tryd.prog (loopAt Tryd.f50 0) (lc_eqIntSLa A B) := lpOK (fun k => .z intC A (.i ((↑k : Int) < (↑(List.map intC A).length
 : Int)) (.w (.draw []) (.x (↑k : Int) (List.map intC A) [cI (A.getD k 0)] (.x (↑k : Int) (List.map intC B) [cI (B.getD k 0)] (.i (A.getD k (0 : Int) ≠ B.getD k 0) (.o 1 [] [.s (lb
 false)]) (.r ((↑k : Int) + 1) (.g [] (k + 1) [.s (li ((↑k : Int) + 1))])))))) (.o 0 [] []))) (by
  intro k h; try dsimp only [teasy, nthW, lc_eqIntSLa] at h ⊢
  with_reducible repeat' (first | apply And.intro | exact zR | (intro; skip))
  all_goals (try simp only [std, inj] at *)
  all_goals with_reducible repeat' apply And.intro
  all_goals (try (first | exact z | grind [take_eq, snocI, snocS, rowSnoc])))
theorem c_eqIntS (A B : List Int)  : P_c_eqIntS A B := fnOK Tryd.call50 Tryd.func50 (.z intC A (.z intC B (.i ((↑(List.map intC A).length : Int) ≠ (↑(List.map intC B).length : Int))
 (.s (lb false)) (.l (lc_eqIntSLa A B) (Sc_eqIntSLa A B) [] [.s (li 0)] 0 (.t (.s (lb true)) (.t (.s (lb false)) .q)))))) (by
  dsimp only [teasy, P_c_eqIntS, nthW, lc_eqIntSLa]
  with_reducible repeat' (first | apply And.intro | exact zR | (intro; skip))
  all_goals (try simp only [std, inj] at *)
  all_goals with_reducible repeat' apply And.intro
  all_goals (try (first | exact z | grind [snocI, snocS, rowSnoc])))
abbrev P_c_eqDatumS (A : List Datum) (B : List Datum) : Ct := ⟨38, [], [ll (A.map datumC), ll (B.map datumC)], [], .sv (lb (decide (A = B)))⟩
abbrev P_c_eqDatum (x : Datum) (y : Datum) : Ct := ⟨19, [], [datumA x, datumA y], [], .sv (lb (decide (x = y)))⟩
def lc_eqDatumSLa (A : List Datum) (B : List Datum) : Lp Nat := .mk 27 0 (fun x => [(0, ll (List.map datumC A)), (1, ll (List.map datumC B)), (5, hs x 0)]) (fun x => []) (fun k =>
 [.s (li (↑k : Int))]) (fun k => k ≤ A.length ∧ A.length ≤ 9223372036854775807 ∧ A.length = B.length ∧ List.take k A = List.take k B) (fun k => A.length - k) [.mk (A = B) (.exit 0)
 (fun x => []) (fun x => []) [], .mk (A ≠ B) .ret (fun x => [(4, hs x 0)]) (fun x => []) [.s (lb false)]]
theorem Sc_eqDatumSLa (A : List Datum) (B : List Datum) (ih : ∀ (x : Datum), x ∈ A → ∀ (y : Datum), OK (P_c_eqDatum x y)) : Lp.Sem Tryd.prog (loopAt Tryd.f38 0) (lc_eqDatumSLa A B)
 := lpOK (fun k => .z datumC A (.i ((↑k : Int) < (↑(List.map datumC A).length : Int)) (.w (.draw []) (.x (↑k : Int) (List.map datumC A) (datumF (A.getD k default)) (.x (↑k : Int)
 (List.map datumC B) (datumF (B.getD k default)) (.d [.rd, .rd] (P_c_eqDatum (A.getD k default) (B.getD k default)) (.b (!decide (A.getD k default = B.getD k default)) (.o 1 [] [.s
 (lb false)]) (.r ((↑k : Int) + 1) (.g [] (k + 1) [.s (li ((↑k : Int) + 1))]))))))) (.o 0 [] []))) (by
  intro k h; try dsimp only [teasy, nthW, lc_eqDatumSLa] at h ⊢
  with_reducible repeat' (first | apply And.intro | exact zR | exact ih | (intro; skip) | apply ih)
  all_goals (try simp only [std, inj] at *)
  all_goals with_reducible repeat' apply And.intro
  all_goals (try (first | with_reducible apply ih | (simp only [← List.map_append]; first | with_reducible apply ih)))
  all_goals (try (first | exact z | grind [take_eq, getD_mem', snocI, snocS, rowSnoc])))
theorem c_eqDatumS (A B : List Datum) (ih : ∀ x ∈ A, ∀ (y : Datum), P_c_eqDatum x y)  : P_c_eqDatumS A B := fnOK Tryd.call38 Tryd.func38 (.z datumC A (.z datumC B (.i ((↑(List.map
 datumC A).length : Int) ≠ (↑(List.map datumC B).length : Int)) (.s (lb false)) (.l (lc_eqDatumSLa A B) (Sc_eqDatumSLa A B ih) [] [.s (li 0)] 0 (.t (.s (lb true)) (.t (.s (lb
 false)) .q)))))) (by
  dsimp only [teasy, P_c_eqDatumS, nthW, lc_eqDatumSLa]
  with_reducible repeat' (first | apply And.intro | exact zR | exact ih | (intro; skip))
  all_goals (try simp only [std, inj] at *)
  all_goals with_reducible repeat' apply And.intro
  all_goals (try (first | with_reducible apply ih | (simp only [← List.map_append]; first | with_reducible apply ih)))
  all_goals (try (first | exact z | grind [snocI, snocS, rowSnoc])))
theorem c_eqDatum_s (x y : Datum) (ih : ∀ z ∈ x.items, ∀ (y : Datum), P_c_eqDatum z y)  : P_c_eqDatum x y := fnOK Tryd.call19 Tryd.func19 (.i (x.kind ≠ y.kind) (.s (lb false)) (.i
 (x.number ≠ y.number) (.s (lb false)) (.i (x.text.data.toList ≠ y.text.data.toList) (.s (lb false)) (.d [.rd, .rd] (P_c_eqDatumS x.items y.items) (.b (!decide (x.items = y.items))
 (.s (lb false)) (.s (lb true))))))) (by
  dsimp only [teasy, P_c_eqDatum]
  simp only [datumExt]
  with_reducible repeat' (first | apply And.intro | exact zR | exact ih | (intro; skip) | apply c_eqDatumS | apply ih)
  all_goals (try simp only [std, inj] at *)
  all_goals with_reducible repeat' apply And.intro
  all_goals (try (first | with_reducible apply c_eqDatumS | with_reducible apply ih | (simp only [← List.map_append]; first | with_reducible apply c_eqDatumS | with_reducible apply ih)))
  all_goals (try (first | exact z | grind [bytes_ext, snocI, snocS, rowSnoc])))
theorem c_eqDatum (x : Datum) : ∀ (y : Datum), P_c_eqDatum x y := Datum.ind (P := fun x => ∀ (y : Datum), P_c_eqDatum x y) (fun x ih y => c_eqDatum_s x y ih) x
abbrev P_c_eqCoreS (A : List Core) (B : List Core) : Ct := ⟨51, [], [ll (A.map coreC), ll (B.map coreC)], [], .sv (lb (decide (A = B)))⟩
abbrev P_c_eqCore (x : Core) (y : Core) : Ct := ⟨16, [], [coreA x, coreA y], [], .sv (lb (decide (x = y)))⟩
def lc_eqCoreSLa (A : List Core) (B : List Core) : Lp Nat := .mk 27 0 (fun x => [(0, ll (List.map coreC A)), (1, ll (List.map coreC B)), (5, hs x 0)]) (fun x => []) (fun k => [.s
 (li (↑k : Int))]) (fun k => k ≤ A.length ∧ A.length ≤ 9223372036854775807 ∧ A.length = B.length ∧ List.take k A = List.take k B) (fun k => A.length - k) [.mk (A = B) (.exit 0)
 (fun x => []) (fun x => []) [], .mk (A ≠ B) .ret (fun x => [(4, hs x 0)]) (fun x => []) [.s (lb false)]]
theorem Sc_eqCoreSLa (A : List Core) (B : List Core) (ih : ∀ (x : Core), x ∈ A → ∀ (y : Core), OK (P_c_eqCore x y)) : Lp.Sem Tryd.prog (loopAt Tryd.f51 0) (lc_eqCoreSLa A B) :=
 lpOK (fun k => .z coreC A (.i ((↑k : Int) < (↑(List.map coreC A).length : Int)) (.w (.draw []) (.x (↑k : Int) (List.map coreC A) (coreF (A.getD k default)) (.x (↑k : Int)
 (List.map coreC B) (coreF (B.getD k default)) (.d [.rd, .rd] (P_c_eqCore (A.getD k default) (B.getD k default)) (.b (!decide (A.getD k default = B.getD k default)) (.o 1 [] [.s
 (lb false)]) (.r ((↑k : Int) + 1) (.g [] (k + 1) [.s (li ((↑k : Int) + 1))]))))))) (.o 0 [] []))) (by
  intro k h; try dsimp only [teasy, nthW, lc_eqCoreSLa] at h ⊢
  with_reducible repeat' (first | apply And.intro | exact zR | exact ih | (intro; skip) | apply ih)
  all_goals (try simp only [std, inj] at *)
  all_goals with_reducible repeat' apply And.intro
  all_goals (try (first | with_reducible apply ih | (simp only [← List.map_append]; first | with_reducible apply ih)))
  all_goals (try (first | exact z | grind [take_eq, getD_mem', snocI, snocS, rowSnoc])))
theorem c_eqCoreS (A B : List Core) (ih : ∀ x ∈ A, ∀ (y : Core), P_c_eqCore x y)  : P_c_eqCoreS A B := fnOK Tryd.call51 Tryd.func51 (.z coreC A (.z coreC B (.i ((↑(List.map coreC
 A).length : Int) ≠ (↑(List.map coreC B).length : Int)) (.s (lb false)) (.l (lc_eqCoreSLa A B) (Sc_eqCoreSLa A B ih) [] [.s (li 0)] 0 (.t (.s (lb true)) (.t (.s (lb false))
 .q)))))) (by
  dsimp only [teasy, P_c_eqCoreS, nthW, lc_eqCoreSLa]
  with_reducible repeat' (first | apply And.intro | exact zR | exact ih | (intro; skip))
  all_goals (try simp only [std, inj] at *)
  all_goals with_reducible repeat' apply And.intro
  all_goals (try (first | with_reducible apply ih | (simp only [← List.map_append]; first | with_reducible apply ih)))
  all_goals (try (first | exact z | grind [snocI, snocS, rowSnoc])))
theorem c_eqCore_s (x y : Core) (ih : ∀ z ∈ x.kids, ∀ (y : Core), P_c_eqCore z y)  : P_c_eqCore x y := fnOK Tryd.call16 Tryd.func16 (.i (x.kind ≠ y.kind) (.s (lb false)) (.i
 (x.number ≠ y.number) (.s (lb false)) (.c [.rd, .rd] (c_eqIntS x.params y.params) (.b (!decide (x.params = y.params)) (.s (lb false)) (.c [.rd, .rd] (c_eqDatum x.datum y.datum)
 (.b (!decide (x.datum = y.datum)) (.s (lb false)) (.d [.rd, .rd] (P_c_eqCoreS x.kids y.kids) (.b (!decide (x.kids = y.kids)) (.s (lb false)) (.s (lb true)))))))))) (by
  dsimp only [teasy, P_c_eqCore]
  simp only [coreExt]
  with_reducible repeat' (first | apply And.intro | exact zR | exact ih | (intro; skip) | apply c_eqIntS | apply c_eqDatum | apply c_eqCoreS | apply ih)
  all_goals (try simp only [std, inj] at *)
  all_goals with_reducible repeat' apply And.intro
  all_goals (try (first | with_reducible apply c_eqIntS | with_reducible apply c_eqDatum | with_reducible apply c_eqCoreS | with_reducible apply ih | (simp only [← List.map_append]; first | with_reducible apply c_eqIntS | with_reducible apply c_eqDatum | with_reducible apply c_eqCoreS | with_reducible apply ih)))
  all_goals (try (first | exact z | grind [bytes_ext, snocI, snocS, rowSnoc])))
theorem c_eqCore (x : Core) : ∀ (y : Core), P_c_eqCore x y := Core.ind (P := fun x => ∀ (y : Core), P_c_eqCore x y) (fun x ih y => c_eqCore_s x y ih) x
end Go.Proofs.YtpflccjienojfaaDoor
end
section
namespace Go.Proofs.YtpflccjienojfaaDoor
open Go Go.Proofs.YtpflccjienojfaaDoor.Ab
set_option linter.unusedVariables false
set_option linter.unusedSimpArgs false
set_option maxHeartbeats 4000000
abbrev P_c_LFmC (c : Core) : Ct := ⟨4, [], [coreA c], [], .sv (lb true)⟩
theorem c_LFmC (c : Core)  : P_c_LFmC c := fnOK Tryd.call4 Tryd.func4 (.d [.rd, .rd] (P_c_szCore c 1048576) (.i (sz (wC c) (1048576 : Int) < 0) (.s (lb true)) (.d [.rd] (P_c_toCore
 c) (.d [.rd] (P_c_sFmtC c) (.d [.rd] (P_c_toCore c) (.d [.rd] (P_c_iFmtC c) (.i (fmC c ≠ fmC c) (.s (lb false)) (.w (.draw []) (.d [.rd] (P_c_toCore c) (.c [.rd, .rd] (c_eqCore c
 c) (.b (!decide (c = c)) (.s (lb false)) (.s (lb true))))))))))))) (by
  dsimp only [teasy, P_c_LFmC]
  with_reducible repeat' (first | apply And.intro | exact zR | (intro; skip) | apply c_szCore | apply c_toCore | apply c_eqCore | apply c_sFmtC | apply c_iFmtC)
  all_goals (try simp only [std, stdM, inj] at *)
  all_goals with_reducible repeat' apply And.intro
  all_goals (try (first | with_reducible apply c_szCore | with_reducible apply c_toCore | with_reducible apply c_eqCore | with_reducible apply c_sFmtC | with_reducible apply c_iFmtC | (simp only [← List.map_append]; first | with_reducible apply c_szCore | with_reducible apply c_toCore | with_reducible apply c_eqCore | with_reducible apply c_sFmtC | with_reducible apply c_iFmtC)))
  all_goals (try (first | exact z | ((first | refine rowGet ?_ | refine getC ?_ rfl); (first | omega | (simp only [std, stdM]; omega) | grind)) | (refine set_row ?_; (simp only [List.length_map, List.length_set, mkTo_len]; omega)) | (refine mkToRow ?_; (first | omega | (simp only [std, stdM]; omega) | grind)) | (refine mkTo_row ?_ rfl; (first | omega | (simp only [std, stdM]; omega) | grind)) | (refine mkTo_step ?_ ?_; (first | omega | (simp only [std, stdM]; omega) | grind); (first | grind [sz, snocI, snocS, rowSnoc])) | grind [sz, snocI, snocS, rowSnoc])))
end Go.Proofs.YtpflccjienojfaaDoor
end
section
namespace Go.Proofs.YtpflccjienojfaaDoor.fnExactFormatCore
open Go Go.ChangeShapes Go.WideShapes Go.ChangeAt Go.RowKit Go.Proofs.YtpflccjienojfaaDoor.Ab
set_option linter.unusedVariables false
theorem own : ownKnob Tryd.prog.godebug = none := by kernel_rfl
theorem laidO : laidOutB Tryd.prog = true := by kernel_rfl
theorem rowed : mapsRowed Tryd.prog = true := by kernel_rfl
theorem sized : ((List.range Tryd.prog.types.size).all fun t => match Tryd.prog.underlying t with | some (.slice e) => decide (0 < Tryd.prog.cellsOf e) | _ => true) = true := by kernel_rfl
theorem gTab : Tryd.prog.globalNamed pow10N = some 0 := by kernel_rfl
theorem gTabType : (Tryd.prog.globals[0]?).map (·.type) = some 168 := by kernel_rfl
theorem cellsE : Tryd.prog.cellsOf 155 = 1 := by kernel_rfl
theorem cellsT : Tryd.prog.cellsOf 168 = 20 := by kernel_rfl
theorem rowTab : Rows.fnExactFormatCoreRow.laid.drop 2 = (pow10N, Lib.tabData .u64 Lib.pow10Tab) :: Rows.fnExactFormatCoreRow.laid.drop 3 := by kernel_rfl
theorem laid_drop {W : Go.World} : ∀ (k : Nat) (l : List (String × DataW PUnit.{1})), laidMet Tryd.prog l W → laidMet Tryd.prog (l.drop k) W
  | 0, _, h => h
  | k + 1, [], h => h
  | k + 1, _ :: r, h => laid_drop k r (laidMet.tail h)
theorem tab {W : Go.World} (h : laidMetH Tryd.prog Rows.fnExactFormatCoreRow.laid W) : Lib.TabIs Tryd.prog W pow10N .u64 Lib.pow10Tab := by
  have h1 : laidMet Tryd.prog Rows.fnExactFormatCoreRow.laid W := h
  have h2 := laid_drop 2 _ h1
  rw [rowTab] at h2
  exact Lib.tabIs_of_head gTab gTabType Tryd.underlying168 Tryd.underlying155 cellsE cellsT h2
theorem known {W : Go.World} (h : laidMetH Tryd.prog Rows.fnExactFormatCoreRow.laid W) : Kn Tryd.prog W (allI W) := by
  have lt : ∀ {n : String} {g : Nat} {cs : Array Value}, Tryd.prog.globalNamed n = some g → W.var? Tryd.prog n = some cs → g < W.heap.size := fun {n g cs} hg hv => by
    rcases Nat.lt_or_ge g W.heap.size with e | e
    · exact e
    · unfold World.var? at hv; rw [hg, Option.bind_some, Array.getElem?_eq_none e] at hv; cases hv
  exact ⟨fun g hg => ⟨lt hg (tab h), fun _ hb => hb, _, tab h, rfl⟩, fun e => absurd e (by decide)⟩
set_option maxRecDepth 100000 in
theorem contract (H : Type) (enc : TypeId × Value → H) (W : Go.World) (base : Nat) (args : Array Value) (ds gs : List (DataW H)) (before : List MemPlace)
    (hval0 : ∀ (j : Nat) t v, Tryd.f4.params[j]? = some t → args[j]? = some v → Value.okWide Tryd.prog W .any base t v)
    (hW : DataW.Whole enc Tryd.prog Tryd.f4.params.toList Rows.fnExactFormatCoreSpec.vars false W args.toList ds gs before) (hL : laidMetH Tryd.prog Rows.fnExactFormatCoreRow.laid W) :
    Calls Tryd.prog 4 args W fun e W' => ∃ v, e = .returned v ∧ Rows.fnExactFormatCoreSpec.post enc Tryd.prog Tryd.f4 false true false false W args v W' := by
  have hval : ∀ (j : Nat) t v, Tryd.f4.params[j]? = some t → args[j]? = some v → Value.okWide Tryd.prog W .any base t v := hval0
  have hW' := hW
  obtain ⟨p, q, hA0, hV, rfl, hfz, hnd⟩ := hW
  obtain ⟨rfl, rfl⟩ := trodVars_none hV
  have hA : DataW.TrodAll enc Tryd.prog W 0 (fun _ => true) true Tryd.f4.params.toList args.toList ds p := hA0
  rw [Tryd.params4] at hA hval
  have hA2 := hA
  clear hA0 hval0
  obtain ⟨v0, vs0, d0, ds0, p0, q0, hargs0, rfl, rfl, h0, r0⟩ := trodAll_cons hA
  obtain ⟨rfl, rfl, rfl⟩ := trodAll_nil r0
  obtain rfl : args = #[v0] := by cases args; simp_all
  obtain ⟨a0, c0⟩ := (let ⟨fuel, hf⟩ := h0; rd_core fuel _ _ hf)
  have s0 : SVRel W (allI W) (obOf []) (coreA a0) v0 := agg_rel (let ⟨cs, h, _⟩ := okWide_struct Tryd.underlying39 (hval 0 39 v0 rfl rfl); ⟨cs, h⟩) c0
  refine (CallOK.kept (w := W) (vals := #[v0]) (c_LFmC a0) (known hL) ⟨s0, trivial⟩).mono fun e W' ⟨he, hg, _⟩ => ?_
  subst he
  exact ⟨_, rfl, post_of_kept (pv := []) hW' (fun _ _ _ => (trodAll_cons_mk (shut_bool Tryd.underlying4 _) trodAll_mk0))
    (fun sp hsp => trodAll_kept laidO rowed sized hg (by decide +kernel) hA2 fun y hy => hsp y (by simpa using hy)) (fun _ _ => rfl) rfl
    hg (ok_one (by kernel_rfl) rfl (okWide_bool_mk Tryd.underlying4 _))⟩
def litsV : DataW PUnit.{1} → Array Value
  | .agg l => (l.map fun x => match x with | .lit (.int k n) => Value.int k n | _ => .bool false).toArray
  | _ => #[]
noncomputable def laidWorld (os : Os) : Go.World :=
  { World.holding Tryd.prog os ⟨#[], #[], []⟩ with heap := ((((World.holding Tryd.prog os ⟨#[], #[], []⟩).heap.modify 3 fun | .cells _ t z => .cells (litsV Rows.laid_math_bits_deBruijn32tab) t z | o => o).modify 4 fun | .cells _ t z => .cells (litsV Rows.laid_math_bits_deBruijn64tab) t z | o => o).modify 0 fun | .cells _ t z => .cells (litsV Rows.laid_internal_strconv_uint64pow10) t z | o => o) }
abbrev arg0 : Array Value := #[.agg #[.int .i64 0, .int .i64 0, .slice none 0 0, .int .i64 0, .int .i64 0, .string ⟨#[]⟩, .slice none 0 0, .slice none 0 0]]
theorem laid_met (os : Os) : laidMet Tryd.prog Rows.fnExactFormatCoreRow.laid ((laidWorld os).forCall (fun _ _ => 0) ⟨#[], arg0, []⟩).memory :=
  laidMet_of_run' 8 (by kernel_rfl) (by kernel_rfl)
theorem reads (os : Os) {H : Type} (enc : TypeId × Value → H) : ∃ places, DataW.whole enc Tryd.prog ((laidWorld os).forCall (fun _ _ => 0) ⟨#[], arg0, []⟩).memory Tryd.f4.params.toList Rows.fnExactFormatCoreSpec.vars false arg0.toList 12 = some ([.agg [.lit (.int .i64 0), .lit (.int .i64 0), .nil, .agg [.lit (.int .i64 0), .lit (.int .i64 0), .lit (.string []), .nil], .nil]], [], places) :=
  ⟨[], by kernel_rfl⟩
set_option maxRecDepth 100000 in
theorem lifted (os : Os) (started : os.Started) (H : Type) (enc : TypeId × Value → H) (F : Stop.Interp) :
    ReturnsInHanded {} Tryd.checked os 4 .any ((OpenSpec.ofChange Rows.fnExactFormatCoreSpec).preRow enc Tryd.prog Tryd.f4 Rows.fnExactFormatCoreRow.domain false Rows.fnExactFormatCoreRow.laid) (((OpenSpec.ofChange Rows.fnExactFormatCoreSpec).at F).post enc Tryd.prog Tryd.f4 false true false false) := by
  obtain ⟨places, hx⟩ := reads os enc
  refine returnsInHanded_of_row (C := Tryd.checked) (s := OpenSpec.ofChange Rows.fnExactFormatCoreSpec) own started (by kernel_rfl) Tryd.func4
    (witness_row_at (enc := enc) (C := Tryd.checked) false (laidWorld os) arg0 rfl (by kernel_rfl) (by kernel_rfl) (by kernel_rfl)
      (OpenSpec.preRow_of_cond 12 hx (by kernel_rfl) (fun k hk => by cases hk) (by kernel_rfl) (laid_met os))) ?_
  intro W base args ds gs before hval hW _ _ _ hL _ _
  exact contract H enc W base args ds gs before hval hW hL
set_option maxRecDepth 100000 in
set_option maxHeartbeats 0 in
theorem facts : joinedFacts Tryd.pinned.checked.prog 4 Tryd.f4 Rows.fnExactFormatCoreSpec Rows.fnExactFormatCoreRow = true := by
  delta joinedFacts
  with_reducible repeat' apply and_i
  all_goals (first | with_reducible exact enters | (rw [makes]; kernel_rfl) | (rw [lifts]; kernel_rfl) | decide +kernel | kernel_rfl)
theorem said : Rows.FnExactFormatCoreSaid :=
  OpenClaim.holds_of_cond 4 Tryd.f4 rfl rfl rfl rfl rfl rfl rfl ⟨rfl, rfl, rfl, rfl, rfl⟩ rfl rfl rfl rfl rfl (by kernel_rfl) Tryd.func4 facts
    (of_decide_eq_true (by kernel_rfl)) (by unfold Func.isWrapper; first | (rw [if_pos (by decide +kernel)]; kernel_rfl) | (rw [if_neg (by decide +kernel)]; exact ⟨rfl, rfl⟩))
    (fun os started H enc _ F => by rw [OpenClaim.pre_eq_preRow]; exact lifted os started H enc F)
theorem plain (k : FuncId) (fn : Func) (hf : Tryd.pinned.checked.prog.funcNamed Rows.fnExactFormatCoreRow.func = some k) (hfn : Tryd.pinned.checked.prog.funcs[k]? = some fn) :
    true = Tryd.pinned.checked.prog.looks [] ∧ ∀ (j : Nat) t, fn.params[j]? = some t → Tryd.pinned.checked.prog.wantsStandIn t = false := by
  obtain rfl : k = 4 := Option.some.inj ((show Tryd.prog.funcNamed Rows.fnExactFormatCoreRow.func = some 4 by kernel_rfl).symm.trans hf) |>.symm
  obtain rfl : fn = Tryd.f4 := (Option.some.inj (Tryd.func4.symm.trans hfn)).symm
  refine ⟨by kernel_rfl, fun j t ht => ?_⟩
  rw [Tryd.params4] at ht
  have hm := Array.mem_of_getElem? ht
  have hall : ([39].all fun u => !Tryd.prog.wantsStandIn u) = true := by kernel_rfl
  exact (show Tryd.prog.wantsStandIn t = false by simpa using List.all_eq_true.1 hall t (by simpa using hm))
theorem proved : Rows.FnExactFormatCoreCardSaid :=
  Claim7.holds_tied_plain_at .later [] _ _ _ _ said (fun _ h => by cases h) (by kernel_rfl) (fun _ h => by cases h) fnExactFormatCore_row_tie rfl ⟨rfl, rfl⟩ (by kernel_rfl) rfl plain (by kernel_rfl)
end Go.Proofs.YtpflccjienojfaaDoor.fnExactFormatCore
end
