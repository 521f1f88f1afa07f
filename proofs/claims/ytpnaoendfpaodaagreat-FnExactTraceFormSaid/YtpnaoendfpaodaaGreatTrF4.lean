/- The program's TraceForm returns what the reference's returns, for all arguments. No condition. -/
import Derived.Test.YtpnaoendfpaodaaGreatTrF3
set_option linter.unusedVariables false
set_option linter.unusedSimpArgs false
section
namespace Go.Proofs.YtpnaoendfpaodaaGreat
open Go Ab
theorem Y136 {H : YS -> Bool} {A : List YS -> Int} : ∀ (l : List YS), (∀ x ∈ l, ∀ d, ∀ z ∈ nm H A x d, wY z.form = 0 /\ z.each = []) -> ∀ i a d, ∀ z ∈ nms H A l i a d, wY z.form = 0 /\ z.each = []
 | [], _, i, a, d, z, hz => by simp [nms] at hz
 | x :: r, h, i, a, d, z, hz => by
  simp only [nms, List.mem_append] at hz
  rcases hz with hz | hz
  ·split at hz
   ·cases hz
   ·exact h x List.mem_cons_self _ z hz
  ·exact Y136 r (fun y hy => h y (List.mem_cons_of_mem _ hy)) _ _ _ z hz
theorem Y1gz {H : YS -> Bool} {A : List YS -> Int} : ∀ (p : YS) (d : Int), ∀ z ∈ nm H A p d, wY z.form = 0 /\ z.each = [] := by
 refine YS.ind fun p ih d z hz => ?_
 rw [Ymw] at hz
 split at hz
 ·split at hz
  ·cases hz
  ·simp only [List.mem_singleton] at hz; subst hz; exact ⟨rfl, rfl⟩
 ·split at hz
  ·exact Y136 p.items ih _ _ _ z hz
  ·cases hz
theorem Y1bd {g : YS -> Option (List YC)} : ∀ (L : List YS) (R : List (List YC)), mtr g L = some R -> R.length = L.length /\ ∀ c ∈ R, ∃ f ∈ L, g f = some c
 | [], R, e => by simp only [mtr, Option.some.injEq] at e; subst e; simp
 | f :: r, R, e => by
  simp only [mtr] at e
  split at e
  ·cases e
  ·rename_i c hc
   split at e
   ·cases e
   ·rename_i R' hR
    simp only [Option.some.injEq] at e; subst e
    have ih := Y1bd r R' hR
    refine ⟨by simp [ih.1], fun d hd => ?_⟩
    rcases List.mem_cons.1 hd with rfl | hd
    ·exact ⟨f, List.mem_cons_self, hc⟩
    ·obtain ⟨g', h1, h2⟩ := ih.2 d hd
     exact ⟨g', List.mem_cons_of_mem _ h1, h2⟩
theorem Y16l : mxP (default : YC) = 0 := rfl
theorem Y1lf {V : List YC} {R : List (List YC)} {m : Nat} (hV : ∀ z ∈ V, wY z.form = 0 /\ z.each = []) (hl : R.length <= m) (hR : ∀ c ∈ R, ∀ z ∈ c, mxP z <= m) : ∀ z ∈ rp V R, mxP z <= m := by
 intro z hz
 simp only [rp, List.mem_map, List.mem_range] at hz
 obtain ⟨i, hi, rfl⟩ := hz
 have h1 := hV _ (Yhj hi)
 rw [Yug]
 simp only [h1.1, h1.2, List.nil_append, List.length_map]
 have h2 : Ysu (R.map fun c => c.getD i default) <= m := Y174 fun y hy => by
  obtain ⟨c, hc, rfl⟩ := List.mem_map.1 hy
  rcases Nat.lt_or_ge i c.length with h3 | h3
  ·exact hR c hc _ (Yhj h3)
  ·have e : c.getD i default = default := by simp [h3]
   rw [e, Y16l]; omega
 omega
theorem Y1ja {m : Nat} {fs : List YS} (h : ∀ f ∈ fs, wY f <= m) (k : Nat) : wY (fs.getD k default) <= m := by
 rcases Nat.lt_or_ge k fs.length with h3 | h3
 ·exact h _ (Yhj h3)
 ·have e : fs.getD k default = default := by simp [h3]
  have e2 : wY (default : YS) = 0 := rfl
  rw [e, e2]; omega
theorem Y1be {M : YS -> YS -> Bool} {H : YS -> Bool} {A : List YS -> Int} {m : Nat} : ∀ l : List YS, (∀ x ∈ l, ∀ f c, mt M H A x f = some c -> wY f <= m -> ∀ z ∈ c, mxP z <= m) -> ∀ i a k fs c, mts M H A l i a k fs = some c -> fs.length <= m -> (∀ f ∈ fs, wY f <= m) -> ∀ z ∈ c, mxP z <= m
 | [], _, i, a, k, fs, c, e, _, _, z, hz => by simp only [mts, Option.some.injEq] at e; subst e; cases hz
 | x :: r, h, i, a, k, fs, c, e, hl, hf, z, hz => by
  have ih := Y1be r (fun y hy => h y (List.mem_cons_of_mem _ hy)) (i + 1) a k
  have hd : ∀ n, (fs.drop n).length <= m /\ ∀ f ∈ fs.drop n, wY f <= m := fun n => ⟨by rw [List.length_drop]; omega, fun f hm => hf f (List.mem_of_mem_drop hm)⟩
  simp only [mts] at e
  split at e
  ·exact ih _ _ e hl hf z hz
  ·split at e
   ·split at e
    ·cases e
    ·rename_i R hR
     split at e
     ·cases e
     ·rename_i c' hc
      simp only [Option.some.injEq] at e; subst e
      obtain ⟨r1, r2⟩ := Y1bd _ _ hR
      rcases List.mem_append.1 hz with hz | hz
      ·refine Y1lf (fun z hz => Y1gz x 1 z hz) ?_ (fun c hc z hz => ?_) z hz
       ·rw [r1, List.length_take]; omega
       ·obtain ⟨f', h1, h2⟩ := r2 c hc
        exact h x List.mem_cons_self f' c h2 (hf f' (List.mem_of_mem_take h1)) z hz
      ·exact ih _ _ hc (hd k).1 (hd k).2 z hz
   ·split at e
    ·cases e
    ·rename_i c1 h1
     split at e
     ·cases e
     ·rename_i c' hc
      simp only [Option.some.injEq] at e; subst e
      rcases List.mem_append.1 hz with hz | hz
      ·exact h x List.mem_cons_self _ _ h1 (Y1ja hf 0) z hz
      ·exact ih _ _ hc (hd 1).1 (hd 1).2 z hz
theorem Y1ku {M : YS -> YS -> Bool} {H : YS -> Bool} {A : List YS -> Int} {m : Nat} : ∀ (p f : YS) (c : List YC), mt M H A p f = some c -> wY f <= m -> ∀ z ∈ c, mxP z <= m := by
 refine YS.ind fun p ih f c e hm z hz => ?_
 rw [Yl8] at e
 split at e
 ·split at e
  ·simp only [Option.some.injEq] at e; subst e; cases hz
  ·split at e
   ·split at e
    ·simp only [Option.some.injEq] at e; subst e; cases hz
    ·cases e
   ·simp only [Option.some.injEq] at e; subst e
    simp only [List.mem_singleton] at hz; subst hz
    have e2 : mxP (Yqc p f) = max (wY f) (max 0 0) := rfl
    rw [e2]; omega
 ·split at e
  ·split at e
   ·have h1 := Yj6 f
    exact Y1be p.items ih _ _ _ _ _ e (by omega) (fun g hg => by have := Yi4 wY hg; omega) z hz
   ·cases e
  ·split at e
   ·simp only [Option.some.injEq] at e; subst e; cases hz
   ·cases e
def apK (B : List YB) (r : YR) (f : YS) (k : Nat) : Bool := (gS B r.literals (tlY (r.patterns.getD k default)) (tlY f)).isSome
def apC (B : List YB) (r : YR) (f : YS) (k : Nat) : List YC := (gS B r.literals (tlY (r.patterns.getD k default)) (tlY f)).getD []
def apZ (B : List YB) (r : YR) (f : YS) (k : Nat) : Bool := (List.range k).all fun j => !apK B r f j
def apN (B : List YB) (r : YR) (f : YS) : Nat := (List.range r.patterns.length).findIdx (apK B r f)
def apG (B : List YB) (r : YR) (f : YS) : Bool := decide (f.kind = 0) && !decide ((f.items.length : Int) = 0) && decide (apN B r f < r.patterns.length)
def apB (B : List YB) (r : YR) (f : YS) : Bool := apG B r f && Yne (r.templates.getD (apN B r f) default) (apC B r f (apN B r f))
def apY (B : List YB) (r : YR) (f : YS) : YS := if apG B r f = true then Yl4 (r.templates.getD (apN B r f) default) (apC B r f (apN B r f)) else zY
section
variable {B : List YB} {r : YR} {f : YS} {k : Nat}
theorem Y131 : apZ B r f 0 = true := rfl
theorem Y12e : apZ B r f (k + 1) = (apZ B r f k && !apK B r f k) := by simp [apZ, List.range_succ]
theorem Y1br (hk : k < r.patterns.length) (h : apK B r f k = true) : apZ B r f r.patterns.length = false := by
 cases e : apZ B r f r.patterns.length with
 | false => rfl
 | true =>
  simp only [apZ, List.all_eq_true, List.mem_range] at e
  have := e k hk
  rw [h] at this; cases this
theorem Y1j8 (hk : k < r.patterns.length) (h : apZ B r f k = true) (h2 : apK B r f k = true) : apN B r f = k := by
 unfold apN
 have hl : k < (List.range r.patterns.length).length := by simpa using hk
 rw [List.findIdx_eq hl]
 refine ⟨by simpa using h2, fun j hj => ?_⟩
 simp only [apZ, List.all_eq_true, List.mem_range] at h
 have := h j hj
 simpa using this
theorem Y1fb (h : apZ B r f r.patterns.length = true) : ¬ apN B r f < r.patterns.length := by
 unfold apN
 intro hl
 have hl' : (List.range r.patterns.length).findIdx (apK B r f) < (List.range r.patterns.length).length := by simpa using hl
 have h3 := List.findIdx_getElem (w := hl')
 simp only [apZ, List.all_eq_true, List.mem_range] at h
 rw [List.getElem_range] at h3
 have := h _ hl
 rw [h3] at this; cases this
theorem Y187 (h : ¬ f.kind = 0) : apB B r f = false /\ apY B r f = zY := by
 have e : apG B r f = false := by simp [apG, h]
 unfold apB apY; rw [e]; exact ⟨rfl, rfl⟩
theorem Y14r (h : f.items.length = 0) : apB B r f = false /\ apY B r f = zY := by
 have e : apG B r f = false := by simp [apG, h]
 unfold apB apY; rw [e]; exact ⟨rfl, rfl⟩
theorem Y17m (h : apZ B r f r.patterns.length = true) : apB B r f = false /\ apY B r f = zY := by
 have e : apG B r f = false := by simp [apG, Y1fb h]
 unfold apB apY; rw [e]; exact ⟨rfl, rfl⟩
theorem Y1gk (h0 : f.kind = 0) (h1 : 0 < f.items.length) (hk : k < r.patterns.length) (h : apZ B r f k = true) (h2 : apK B r f k = true) : apB B r f = Yne (r.templates.getD k default) (apC B r f k) /\ apY B r f = Yl4 (r.templates.getD k default) (apC B r f k) := by
 have e := Y1j8 hk h h2
 have e2 : apG B r f = true := by unfold apG; rw [e]; simp [h0, hk]; intro h3; rw [h3] at h1; simp at h1
 unfold apB apY; rw [e2, e]; exact ⟨rfl, rfl⟩
theorem Yta (hr : Yko r = true) (hk : k < r.patterns.length) : good r.literals (tlY (r.patterns.getD k default)) /\ Yi1 (tlY (r.patterns.getD k default)) <= 40 /\ Yhk (tlY (r.patterns.getD k default)) <= 2000 /\ k < r.templates.length /\ r.literals.all Yk9 = true /\ 1 <= (r.patterns.getD k default).items.length := by
 simp only [Yko, Bool.and_eq_true, decide_eq_true_eq] at hr
 obtain ⟨⟨⟨⟨h1, h2⟩, _⟩, h3⟩, _⟩ := hr
 have h4 := Yvs r _ (k + 1) hk h3
 simp only [Ymo, clT, clP, Bool.and_eq_true] at h4
 have h5 := h4.2.1
 have h6 := Y107 h5.1.1.1.1.1
 have h7 := h5.1.1.1.2
 have h8 := Y1ih h6 h5.2
 simp only [okL, Bool.and_eq_true] at h1
 refine ⟨h8.1, h8.2.2, h8.2.1, by omega, h1.1, ?_⟩
 simp only [Bool.not_eq_true', decide_eq_false_iff_not] at h7
 omega
theorem Y1df {m : Nat} (hr : Yko r = true) (hk : k < r.patterns.length) (hf : wY (tlY f) <= m) : (∀ z ∈ apC B r f k, mxP z <= m) /\ (apC B r f k).length <= 2000 := by
 have h1 := Yta hr hk
 unfold apC
 cases e : gS B r.literals (tlY (r.patterns.getD k default)) (tlY f) with
 | none => simp
 | some c =>
  simp only [Option.getD_some]
  refine ⟨Y1ku _ _ _ e hf, ?_⟩
  have h2 := Y1d6 e
  have h3 := Y109 (Ls := r.literals) (tlY (r.patterns.getD k default))
  omega
theorem Y1i9 (hr : Yko r = true) (hk : k < r.patterns.length) (g : YS) : gI B r.literals (tlY (r.patterns.getD k default)) g = gS B r.literals (tlY (r.patterns.getD k default)) g := by
 have h1 := Yta hr hk
 exact ((Y177 (M := mng B) (List.all_eq_true.1 h1.2.2.2.2.1) _ h1.1).1 g).symm
end
end Go.Proofs.YtpnaoendfpaodaaGreat
end
section
namespace Go.Proofs.YtpnaoendfpaodaaGreat
open Go Ab
set_option maxHeartbeats 4000000
abbrev Z9l (B : List YB) (r : YR) (f : YS) : Ct := ⟨114, [], [ll (B.map Yhc), Ymf r, Yhu f], Yk5 (apY B r f), .tup [Yjx (apY B r f) 0, lb (apB B r f)]⟩
def Z6o (B : List YB) (r : YR) (f : YS) : Lp Nat := .mk 54 0 (fun x => [(0, ll (B.map Yhc)), (4, .one (.ptr 0 0)), (5, .one (.ptr 1 0)), (6,
 .one (.ptr 2 0)), (23, ll (r.patterns.map Yh9)), (24, li (↑(r.patterns.map Yh9).length : Int)), (25, hs x 0)]) (fun x => [.box (vals (Yix r)), .box
 (vals (Yhg f)), .box [vI 0, vI 0, vS (ByteArray.mk #[]), .val (.lit (.slice none 0 0)), .val (.lit (.slice none 0 0))]]) (fun k => [.s (li (↑k :
 Int))]) (fun k => k <= r.patterns.length /\ r.patterns.length <= 9223372036854775807 /\ apZ B r f k = true /\ f.kind = 0 /\ 0 < f.items.length) (fun k => r.patterns.length - k) [.mk
 (apZ B r f r.patterns.length = true) (.exit 0) (fun x => [(6, .one (.ptr 0 0))]) (fun x => [.box [vI 0, vI 0, vS (ByteArray.mk #[]), .val (.lit (.slice none 0
 0)), .val (.lit (.slice none 0 0))]]) [], .mk (apZ B r f r.patterns.length = false) .ret (fun x => [(6, .one (.ptr 0 0)), (7, hs x 5)]) (fun x => [.box [ha x 0,
 ha x 1, ha x 2, .ref 1, .ref 2], ho x 3, ho x 4]) [.a (vI (apY B r f).kind), .a (vI (apY B r f).number), .a (vS (apY B r f).text), .o (.arr true 1 ((apY B r
 f).scopes.map Yhd)), .o (.arr true 5 ((apY B r f).items.map Yh9)), .s (lb (apB B r f))]]
theorem Zfz (B : List YB) (r : YR) (f : YS) (h : B.length <= 1048577 /\ Yhb wB B <= 1048577 /\ wR r <= 1048576 /\ wY f <= 1000000000) (hr : Yko r = true) : Lp.Sem
 Tryz.prog (Yhp Tryz.f114 0) (Z6o B r f) := Yhz (fun k => .i ((k : Int) < (↑(r.patterns.map Yh9).length : Int)) (.x (k : Int) (r.patterns.map Yh9)
 (Yhg (r.patterns.getD k default)) (.w (.draw [(8, [20])]) (.d [.rd] (Z4z (r.patterns.getD k default)) (.d [.rd] (Z4z f) (.w (.bool false) (.d [.rd, .rd, .rd, .rd,
 .own true 12] (Zk B r.literals (YS.mk 0 0 (mkS []) [] (List.drop 1 (r.patterns.getD k default).items)) (YS.mk 0 0 (mkS []) [] (f.items.drop 1)) []) (.b (gS B
 r.literals (YS.mk 0 0 (mkS []) [] (List.drop 1 (r.patterns.getD k default).items)) (YS.mk 0 0 (mkS []) [] (f.items.drop 1))).isSome (.x (k : Int) (List.map Yh9
 r.templates) (Yhg (r.templates.getD k default)) (.d [.rd, .rd] (Z9j (r.templates.getD k default) (smO (YS.mk 0 0 (mkS []) [] (List.drop 1 (r.patterns.getD k
 default).items)) [] (gS B r.literals (YS.mk 0 0 (mkS []) [] (List.drop 1 (r.patterns.getD k default).items)) (YS.mk 0 0 (mkS []) [] (f.items.drop 1))))) (.o 1 [2, 23,
 24] [.a (vI (Yl4 (r.templates.getD k default) (smO (YS.mk 0 0 (mkS []) [] (List.drop 1 (r.patterns.getD k default).items)) [] (gS B r.literals (YS.mk 0 0 (mkS []) []
 (List.drop 1 (r.patterns.getD k default).items)) (YS.mk 0 0 (mkS []) [] (f.items.drop 1))))).kind), .a (vI (Yl4 (r.templates.getD k default) (smO (YS.mk 0 0 (mkS [])
 [] (List.drop 1 (r.patterns.getD k default).items)) [] (gS B r.literals (YS.mk 0 0 (mkS []) [] (List.drop 1 (r.patterns.getD k default).items)) (YS.mk 0 0 (mkS []) []
 (f.items.drop 1))))).number), .a (vS (Yl4 (r.templates.getD k default) (smO (YS.mk 0 0 (mkS []) [] (List.drop 1 (r.patterns.getD k default).items)) [] (gS B r.literals
 (YS.mk 0 0 (mkS []) [] (List.drop 1 (r.patterns.getD k default).items)) (YS.mk 0 0 (mkS []) [] (f.items.drop 1))))).text), .o (.arr true 1 ((Yl4
 (r.templates.getD k default) (smO (YS.mk 0 0 (mkS []) [] (List.drop 1 (r.patterns.getD k default).items)) [] (gS B r.literals (YS.mk 0 0 (mkS []) [] (List.drop 1
 (r.patterns.getD k default).items)) (YS.mk 0 0 (mkS []) [] (f.items.drop 1))))).scopes.map Yhd)), .o (.arr true 5 ((Yl4 (r.templates.getD k default) (smO
 (YS.mk 0 0 (mkS []) [] (List.drop 1 (r.patterns.getD k default).items)) [] (gS B r.literals (YS.mk 0 0 (mkS []) [] (List.drop 1 (r.patterns.getD k default).items))
 (YS.mk 0 0 (mkS []) [] (f.items.drop 1))))).items.map Yh9)), .s (lb (Yne (r.templates.getD k default) (smO (YS.mk 0 0 (mkS []) [] (List.drop 1 (r.patterns.getD k
 default).items)) [] (gS B r.literals (YS.mk 0 0 (mkS []) [] (List.drop 1 (r.patterns.getD k default).items)) (YS.mk 0 0 (mkS []) [] (f.items.drop 1))))))]))) (.r ((↑k
 : Int) + 1) (.g [0, 1, 2] (k + 1) [.s (li ((k : Int) + 1))]))))))))) (.o 0 [2] [])) (by
 intro k h; try dsimp only [Yhf, Yhl, Z6o] at h ⊢
 have g1 := @Y12e B r f k
 have g0 := @Y1br B r f k
 have g2 := @Y1gk B r f k
 have g3 := @Yta r k hr
 have g4 := @Y1df B r f k 1000000000 hr
 have g5 := Ynp r
 have g6 := @Yi4 _ wY r.patterns (r.patterns.getD k default)
 have g7 := @Yi4 _ wY r.templates (r.templates.getD k default)
 have g8 := Yvt (r.patterns.getD k default)
 have g9 := Yvt f
 with_reducible repeat' (first | apply And.intro | exact zR | (intro) | apply Z3g | apply Za1 | apply Za3)
 all_goals ((try simp only [std, inj] at *); with_reducible and_intros)
 all_goals try with_reducible first | apply Z3g | apply Za1 | apply Za3
 all_goals try first | exact zw | grind [tlY, Yhj, apK, apC, Yvu, Yhi, Yhh, Yhe])
theorem Zg0 (B : List YB) (r : YR) (f : YS) (h : B.length <= 1048577 /\ Yhb wB B <= 1048577 /\ wR r <= 1048576 /\ wY f <= 1000000000) (hr : Yko r = true)  : Z9l B
 r f := Yhq Tryz.call114 Tryz.func114 (.i (f.kind ≠ 0) (.y true (.w (.ghost (.nilbox 2 3 true 1)) (.w (.ghost (.nilbox 2 4 true 5)) (.f [3, 4] [.arr true 1 [], .arr true 5 []]
 (.tup [.agg [vI 0, vI 0, vS (ByteArray.mk #[]), .ref 0, .ref 1], lb false]))))) (.z Yh9 f.items (.i ((↑(f.items.map Yh9).length : Int) = 0) (.w (.ghost
 (.nilbox 2 3 true 1)) (.w (.ghost (.nilbox 2 4 true 5)) (.f [3, 4] [.arr true 1 [], .arr true 5 []] (.tup [.agg [vI 0, vI 0, vS (ByteArray.mk #[]), .ref 0, .ref 1], lb
 false])))) (.z Yh9 r.patterns (.l (Z6o B r f) (Zfz B r f h hr) [0, 1, 2] [.s (li 0)] 0 (.t (.w (.ghost (.nilbox 0 3 true 1)) (.w (.ghost (.nilbox 0 4 true 5)) (.f
 [1, 2] [.arr true 1 [], .arr true 5 []] (.tup [.agg [vI 0, vI 0, vS (ByteArray.mk #[]), .ref 0, .ref 1], lb false])))) (.t (.f [1, 2] [.arr true 1 (List.map Yhd
 (apY B r f).scopes), .arr true 5 ((apY B r f).items.map Yh9)] (.tup [.agg [vI (apY B r f).kind, vI (apY B r f).number, vS (apY B r f).text, .ref 0, .ref 1], lb
 (apB B r f)])) .q))))))) (by
 dsimp only [Yhf, Z9l, Yhl, Z6o]
 have g1 := @Y187 B r f
 have g2 := @Y14r B r f
 have g3 := @Y17m B r f
 have gz : zY.kind = 0 /\ zY.number = 0 /\ zY.text = mkS [] /\ zY.scopes = [] /\ zY.items = [] := ⟨rfl, rfl, rfl, rfl, rfl⟩
 with_reducible repeat' (first | apply And.intro | exact zR | (intro) | apply Z3g | apply Za1 | apply Za3)
 all_goals ((try simp only [std, inj] at *); with_reducible and_intros)
 all_goals try with_reducible first | apply Z3g | apply Za1 | apply Za3
 all_goals try first | exact zw | grind [Y131, Yhi, Yhh, Yhe])
abbrev Z9m (B : List YB) (r : YR) (f : YS) : Ct := ⟨115, [], [ll (B.map Yhc), Ymf r, Yhu f], Yk5 (apY B r f), .tup [Yjx (apY B r f) 0, lb (apB B r f)]⟩
def Z6p (B : List YB) (r : YR) (f : YS) : Lp Nat := .mk 56 0 (fun x => [(4, .one (.ptr 0 0)), (5, .one (.ptr 1 0)), (6, .one (.ptr 2 0)), (8, .one
 (.ptr 3 0)), (28, ll (r.patterns.map Yh9)), (29, li (↑(r.patterns.map Yh9).length : Int)), (30, hs x 0)]) (fun x => [.box (vals (Yix r)), .box (vals
 (Yhg f)), .box [vI 0, vI 0, vS (ByteArray.mk #[]), .val (.lit (.slice none 0 0)), .val (.lit (.slice none 0 0))], .box [vL (B.map Yhc), vL
 (r.literals.map Yh9)]]) (fun k => [.s (li (k : Int))]) (fun k => k <= r.patterns.length /\ r.patterns.length <= 9223372036854775807 /\ apZ B r f k = true /\ f.kind = 0 /\ 0 <
 f.items.length) (fun k => r.patterns.length - k) [.mk (apZ B r f r.patterns.length = true) (.exit 0) (fun x => [(6, .one (.ptr 0 0))]) (fun x => [.box [vI 0, vI 0, vS
 (ByteArray.mk #[]), .val (.lit (.slice none 0 0)), .val (.lit (.slice none 0 0))]]) [], .mk (apZ B r f r.patterns.length = false) .ret (fun x => [(6, .one
 (.ptr 0 0)), (7, hs x 5)]) (fun x => [.box [ha x 0, ha x 1, ha x 2, .ref 1, .ref 2], ho x 3, ho x 4]) [.a (vI (apY B r f).kind), .a (vI (apY B r f).number), .a (vS (apY B
 r f).text), .o (.arr true 1 ((apY B r f).scopes.map Yhd)), .o (.arr true 5 ((apY B r f).items.map Yh9)), .s (lb (apB B r f))]]
theorem Zg1 (B : List YB) (r : YR) (f : YS) (h : B.length <= 1048577 /\ Yhb wB B <= 1048577 /\ wR r <= 1048576 /\ wY f <= 1000000000) (hr : Yko r = true) : Lp.Sem
 Tryz.prog (Yhp Tryz.f115 0) (Z6p B r f) := Yhz (fun k => .i ((k : Int) < (↑(r.patterns.map Yh9).length : Int)) (.x (k : Int) (r.patterns.map Yh9)
 (Yhg (r.patterns.getD k default)) (.w (.draw []) (.d [.rd] (Z50 (r.patterns.getD k default)) (.d [.rd] (Z50 f) (.d [.rd, .rd, .rd, .own true 12] (Zr B
 r.literals (YS.mk 0 0 (mkS []) [] (List.drop 1 (r.patterns.getD k default).items)) (YS.mk 0 0 (mkS []) [] (f.items.drop 1)) []) (.b (gI B r.literals (YS.mk 0 0
 (mkS []) [] (List.drop 1 (r.patterns.getD k default).items)) (YS.mk 0 0 (mkS []) [] (f.items.drop 1))).isSome (.x (k : Int) (r.templates.map Yh9) (Yhg
 (r.templates.getD k default)) (.d [.rd, .rd] (Z9k (r.templates.getD k default) (smO (YS.mk 0 0 (mkS []) [] (List.drop 1 (r.patterns.getD k default).items)) [] (gI B
 r.literals (YS.mk 0 0 (mkS []) [] (List.drop 1 (r.patterns.getD k default).items)) (YS.mk 0 0 (mkS []) [] (f.items.drop 1))))) (.o 1 [2, 23, 24] [.a (vI (Yl4
 (r.templates.getD k default) (smO (YS.mk 0 0 (mkS []) [] (List.drop 1 (r.patterns.getD k default).items)) [] (gI B r.literals (YS.mk 0 0 (mkS []) [] (List.drop 1
 (r.patterns.getD k default).items)) (YS.mk 0 0 (mkS []) [] (f.items.drop 1))))).kind), .a (vI (Yl4 (r.templates.getD k default) (smO (YS.mk 0 0 (mkS []) []
 (List.drop 1 (r.patterns.getD k default).items)) [] (gI B r.literals (YS.mk 0 0 (mkS []) [] (List.drop 1 (r.patterns.getD k default).items)) (YS.mk 0 0 (mkS []) []
 (f.items.drop 1))))).number), .a (vS (Yl4 (r.templates.getD k default) (smO (YS.mk 0 0 (mkS []) [] (List.drop 1 (r.patterns.getD k default).items)) [] (gI B r.literals
 (YS.mk 0 0 (mkS []) [] (List.drop 1 (r.patterns.getD k default).items)) (YS.mk 0 0 (mkS []) [] (f.items.drop 1))))).text), .o (.arr true 1 ((Yl4
 (r.templates.getD k default) (smO (YS.mk 0 0 (mkS []) [] (List.drop 1 (r.patterns.getD k default).items)) [] (gI B r.literals (YS.mk 0 0 (mkS []) [] (List.drop 1
 (r.patterns.getD k default).items)) (YS.mk 0 0 (mkS []) [] (f.items.drop 1))))).scopes.map Yhd)), .o (.arr true 5 ((Yl4 (r.templates.getD k default) (smO
 (YS.mk 0 0 (mkS []) [] (List.drop 1 (r.patterns.getD k default).items)) [] (gI B r.literals (YS.mk 0 0 (mkS []) [] (List.drop 1 (r.patterns.getD k default).items))
 (YS.mk 0 0 (mkS []) [] (f.items.drop 1))))).items.map Yh9)), .s (lb (Yne (r.templates.getD k default) (smO (YS.mk 0 0 (mkS []) [] (List.drop 1 (r.patterns.getD k
 default).items)) [] (gI B r.literals (YS.mk 0 0 (mkS []) [] (List.drop 1 (r.patterns.getD k default).items)) (YS.mk 0 0 (mkS []) [] (f.items.drop 1))))))]))) (.r ((↑k
 : Int) + 1) (.g [0, 1, 2, 3] (k + 1) [.s (li ((k : Int) + 1))])))))))) (.o 0 [2] [])) (by
 intro k h; try dsimp only [Yhf, Yhl, Z6p] at h ⊢
 have g1 := @Y12e B r f k
 have g0 := @Y1br B r f k
 have g2 := @Y1gk B r f k
 have g3 := @Yta r k hr
 have g4 := @Y1df B r f k 1000000000 hr
 have g5 := Ynp r
 have g6 := @Yi4 _ wY r.patterns (r.patterns.getD k default)
 have g7 := @Yi4 _ wY r.templates (r.templates.getD k default)
 have g8 := Yvt (r.patterns.getD k default)
 have g9 := Yvt f
 have g10 := @Y1i9 B r k hr
 with_reducible repeat' (first | apply And.intro | exact zR | (intro) | apply Z3h | apply Za2 | apply Za4)
 all_goals ((try simp only [std, inj] at *); with_reducible and_intros)
 all_goals try with_reducible first | apply Z3h | apply Za2 | apply Za4
 all_goals try first | exact zw | grind [tlY, Yhj, apK, apC, Yvu, Yhi, Yhh, Yhe])
theorem Zg2 (B : List YB) (r : YR) (f : YS) (h : B.length <= 1048577 /\ Yhb wB B <= 1048577 /\ wR r <= 1048576 /\ wY f <= 1000000000) (hr : Yko r = true)  : Z9m B
 r f := Yhq Tryz.call115 Tryz.func115 (.i (f.kind ≠ 0) (.y true (.w (.ghost (.nilbox 2 3 true 1)) (.w (.ghost (.nilbox 2 4 true 5)) (.f [3, 4] [.arr true 1 [], .arr true 5 []]
 (.tup [.agg [vI 0, vI 0, vS (ByteArray.mk #[]), .ref 0, .ref 1], lb false]))))) (.z Yh9 f.items (.i ((↑(f.items.map Yh9).length : Int) = 0) (.w (.ghost
 (.nilbox 2 3 true 1)) (.w (.ghost (.nilbox 2 4 true 5)) (.f [3, 4] [.arr true 1 [], .arr true 5 []] (.tup [.agg [vI 0, vI 0, vS (ByteArray.mk #[]), .ref 0, .ref 1], lb
 false])))) (.z Yh9 r.patterns (.l (Z6p B r f) (Zg1 B r f h hr) [0, 1, 2, 3] [.s (li 0)] 0 (.t (.w (.ghost (.nilbox 0 3 true 1)) (.w (.ghost (.nilbox 0 4 true 5))
 (.f [1, 2] [.arr true 1 [], .arr true 5 []] (.tup [.agg [vI 0, vI 0, vS (ByteArray.mk #[]), .ref 0, .ref 1], lb false])))) (.t (.f [1, 2] [.arr true 1 (List.map Yhd
 (apY B r f).scopes), .arr true 5 ((apY B r f).items.map Yh9)] (.tup [.agg [vI (apY B r f).kind, vI (apY B r f).number, vS (apY B r f).text, .ref 0, .ref 1], lb
 (apB B r f)])) .q))))))) (by
 dsimp only [Yhf, Z9m, Yhl, Z6p]
 have g1 := @Y187 B r f
 have g2 := @Y14r B r f
 have g3 := @Y17m B r f
 have gz : zY.kind = 0 /\ zY.number = 0 /\ zY.text = mkS [] /\ zY.scopes = [] /\ zY.items = [] := ⟨rfl, rfl, rfl, rfl, rfl⟩
 with_reducible repeat' (first | apply And.intro | exact zR | (intro) | apply Z3h | apply Za2 | apply Za4)
 all_goals ((try simp only [std, inj] at *); with_reducible and_intros)
 all_goals try with_reducible first | apply Z3h | apply Za2 | apply Za4
 all_goals try first | exact zw | grind [Y131, Yhi, Yhh, Yhe])
def Yi3 (n : Int) : List Int -> List Int
 | [] => [n]
 | x :: r => if n <= x then (if x = n then x :: r else n :: x :: r) else x :: Yi3 n r
def plN (n : Int) (L : List Int) : Bool := L.any fun x => decide (n <= x)
theorem Y16s {n : Int} : ∀ {A : List Int} (C : List Int), plN n A = true -> Yi3 n (A ++ C) = Yi3 n A ++ C
 | [], _, h => by cases h
 | x :: r, C, h => by
  simp only [List.cons_append, Yi3]
  split
  ·split <;> rfl
  ·rename_i hx
   have : plN n r = true := by simpa [plN, hx] using h
   rw [Y16s C this]; rfl
theorem Yt3 {n : Int} : ∀ {A : List Int} (C : List Int), plN n A = false -> Yi3 n (A ++ C) = A ++ Yi3 n C
 | [], _, _ => rfl
 | x :: r, C, h => by
  simp only [plN, List.any_cons, Bool.or_eq_false_iff, decide_eq_false_iff_not] at h
  simp only [List.cons_append, Yi3]
  rw [if_neg h.1, Yt3 C (by simpa [plN] using h.2)]
def Yit (n : Int) (L : List Int) (k : Nat) : List Int := if plN n (L.take k) = true then Yi3 n (L.take k) else L.take k
theorem Yov {n : Int} {L : List Int} {k : Nat} (h : k < L.length) : plN n (L.take (k + 1)) = (plN n (L.take k) || decide (n <= L.getD k 0)) := by
 have e := Yhy h
 unfold plN; rw [e, List.any_append]; simp
theorem Y18b {n : Int} {L : List Int} {k : Nat} (h : k < L.length) (h1 : plN n (L.take k) = true) : Yit n L (k + 1) = Yit n L k ++ [L.getD k 0] := by
 have e := Yhy h
 unfold Yit
 rw [if_pos (by rw [Yov h, h1]; rfl), if_pos h1, e, Y16s _ h1]; rfl
theorem Y16t {n : Int} {L : List Int} {k : Nat} (h : k < L.length) (h1 : plN n (L.take k) = false) (h2 : ¬ n <= L.getD k 0) : Yit n L (k + 1) = Yit n L k ++ [L.getD k 0] := by
 have e := Yhy h
 unfold Yit
 rw [if_neg (by rw [Yov h, h1, decide_eq_false h2]; decide), if_neg (by rw [h1]; decide), e]; rfl
theorem Y18r {n : Int} {L : List Int} {k : Nat} (h : k < L.length) (h1 : plN n (L.take k) = false) (h2 : n <= L.getD k 0) (h3 : L.getD k 0 = n) : Yit n L (k + 1) = Yit n L k ++ [L.getD k 0] := by
 have e := Yhy h
 unfold Yit
 rw [if_pos (by rw [Yov h, h1, decide_eq_true h2]; rfl), if_neg (by rw [h1]; decide), e, Yt3 _ h1]
 show L.take k ++ Yi3 n [L.getD k 0] = _
 simp only [Yi3]; rw [if_pos h2, if_pos h3]
theorem Y12p {n : Int} {L : List Int} {k : Nat} (h : k < L.length) (h1 : plN n (L.take k) = false) (h2 : n <= L.getD k 0) (h3 : ¬ L.getD k 0 = n) : Yit n L (k + 1) = Yit n L k ++ [n] ++ [L.getD k 0] := by
 have e := Yhy h
 unfold Yit
 rw [if_pos (by rw [Yov h, h1, decide_eq_true h2]; rfl), if_neg (by rw [h1]; decide), e, Yt3 _ h1]
 show L.take k ++ Yi3 n [L.getD k 0] = _
 simp only [Yi3]; rw [if_pos h2, if_neg h3, List.append_assoc]; rfl
theorem Y15d {n : Int} {L : List Int} {k : Nat} (h : L.length <= k) : (plN n (L.take k) = true -> Yit n L k = Yi3 n L) /\ (plN n (L.take k) = false -> Yit n L k ++ [n] = Yi3 n L) := by
 have e := List.take_of_length_le h
 refine ⟨fun h1 => ?_, fun h1 => ?_⟩
 ·unfold Yit; rw [if_pos h1, e]
 ·unfold Yit; rw [if_neg (by rw [h1]; decide)]
  rw [e] at h1 ⊢
  have := Yt3 [] h1
  rw [List.append_nil] at this; rw [this]; rfl
theorem Ytk (n : Int) : ∀ L : List Int, (Yi3 n L).length <= L.length + 1
 | [] => by simp [Yi3]
 | x :: r => by
  have := Ytk n r
  simp only [Yi3]; split
  ·split <;> simp
  ·simp only [List.length_cons]; omega
theorem Yt5 (n : Int) (L : List Int) (k : Nat) : (Yit n L k).length <= L.length + 1 := by
 have h : (L.take k).length <= L.length := by rw [List.length_take]; omega
 unfold Yit; split
 ·have := Ytk n (L.take k); omega
 ·omega
def Yi7 (n : Int) (L : List Int) : List Int := if n ∈ L then L.filter fun x => decide (x ≠ n) else Yi3 n L
theorem Y129 (n : Int) (L : List Int) : (Yi7 n L).length <= L.length + 1 := by
 unfold Yi7; split
 ·have := List.length_filter_le (fun x => decide (x ≠ n)) L; omega
 ·exact Ytk n L
def srt : List Int -> Prop
 | [] => True
 | x :: r => (1 <= x /\ x <= 99999) /\ (∀ y ∈ r, x < y) /\ srt r
theorem Y17f {n : Int} (hn : 1 <= n /\ n <= 99999) : ∀ L, srt L -> srt (Yi3 n L) /\ ∀ y ∈ Yi3 n L, y = n ∨ y ∈ L
 | [], _ => ⟨⟨hn, by simp, trivial⟩, by simp [Yi3]⟩
 | x :: r, h => by
  obtain ⟨h1, h2, h3⟩ := h
  simp only [Yi3]
  split
  ·rename_i hx
   split
   ·exact ⟨⟨h1, h2, h3⟩, fun y hy => .inr hy⟩
   ·refine ⟨⟨hn, fun y hy => ?_, h1, h2, h3⟩, fun y hy => ?_⟩
    ·rcases List.mem_cons.1 hy with rfl | hy
     ·omega
     ·have := h2 y hy; omega
    ·rcases List.mem_cons.1 hy with rfl | hy
     ·exact .inl rfl
     ·exact .inr hy
  ·rename_i hx
   obtain ⟨i1, i2⟩ := Y17f hn r h3
   refine ⟨⟨h1, fun y hy => ?_, i1⟩, fun y hy => ?_⟩
   ·rcases i2 y hy with rfl | hy
    ·omega
    ·exact h2 y hy
   ·rcases List.mem_cons.1 hy with rfl | hy
    ·exact .inr List.mem_cons_self
    ·rcases i2 y hy with rfl | hy
     ·exact .inl rfl
     ·exact .inr (List.mem_cons_of_mem _ hy)
theorem Ywy {x : Int} : ∀ {A : List Int}, srt (A ++ [x]) ↔ srt A /\ (1 <= x /\ x <= 99999) /\ ∀ y ∈ A, y < x
 | [] => by simp [srt]
 | a :: A => by
  simp only [List.cons_append, srt, Ywy (A := A), List.mem_append, List.mem_singleton, List.mem_cons]
  constructor
  ·rintro ⟨h1, h2, h3, h4, h5⟩
   exact ⟨⟨h1, fun y hy => h2 y (.inl hy), h3⟩, h4, fun y hy => hy.elim (fun e => by rw [e]; exact h2 x (.inr (.inl rfl))) (h5 y)⟩
  ·rintro ⟨⟨h1, h2, h3⟩, h4, h5⟩
   exact ⟨h1, fun y hy => hy.elim (h2 y) (fun e => e.elim (fun e => by rw [e]; exact h5 a (.inl rfl)) (fun e => by cases e)), h3, h4, fun y hy => h5 y (.inr hy)⟩
theorem Y10o (L : List Int) : ∀ k, k <= L.length -> (Yll L k = true ↔ srt (L.take k))
 | 0, _ => by simp [Yll, srt]
 | k + 1, hk => by
  have e := Yhy (L := L) (k := k) (by omega)
  have ih := Y10o L k (by omega)
  rw [e, Ywy, <- ih]
  simp only [Yll, Bool.and_eq_true, Bool.or_eq_true, decide_eq_true_eq]
  constructor
  ·rintro ⟨⟨h1, h2⟩, h3⟩
   refine ⟨h1, h2, fun y hy => ?_⟩
   rcases h3 with h2 | h2
   ·subst h2; simp at hy
   ·have hs := ih.1 h1
    have e2 := Yhy (L := L) (k := k - 1) (by omega)
    have hk0 : 0 < k := by
     rcases Nat.eq_zero_or_pos k with h0 | h0
     ·subst h0; simp at hy
     ·exact h0
    rw [show k - 1 + 1 = k by omega] at e2
    rw [e2] at hs hy
    have h4 := Ywy.1 hs
    rcases List.mem_append.1 hy with hy | hy
    ·have := h4.2.2 y hy; omega
    ·simp only [List.mem_singleton] at hy; omega
  ·rintro ⟨h1, h2, h3⟩
   refine ⟨⟨h1, h2⟩, ?_⟩
   rcases Nat.eq_zero_or_pos k with h0 | h0
   ·exact .inl h0
   ·right
    refine h3 _ ?_
    rw [List.mem_iff_getElem?]
    refine ⟨k - 1, ?_⟩
    rw [List.getElem?_take, if_pos (by omega)]
    simp [List.getD_eq_getElem?_getD, List.getElem?_eq_getElem (show k - 1 < L.length by omega)]
theorem Ywh (L : List Int) : Yk8 L = true ↔ srt L := by
 have := Y10o L L.length (Nat.le_refl _)
 rw [List.take_length] at this; exact this
mutual
def Yht (g : List Int -> List Int) : YS -> YS
 | ⟨k, n, t, s, l⟩ => ⟨k, n, t, if k = 1 then g s else s, Y125 g l⟩
def Y125 (g : List Int -> List Int) : List YS -> List YS
 | [] => []
 | x :: r => Yht g x :: Y125 g r
end
theorem Y153 (g : List Int -> List Int) : ∀ l, Y125 g l = l.map (Yht g)
 | [] => rfl
 | x :: r => by rw [Y125, Y153 g r]; rfl
theorem Yvd (g : List Int -> List Int) (s : YS) : Yht g s = ⟨s.kind, s.number, s.text, if s.kind = 1 then g s.scopes else s.scopes, s.items.map (Yht g)⟩ := by cases s; simp only [Yht, Y153]
theorem Yyk (f h : YS -> Nat) (g : YS -> YS) : ∀ L : List YS, (∀ x ∈ L, f (g x) <= h x) -> Yhb f (L.map g) <= Yhb h L
 | [], _ => Nat.le_refl _
 | x :: r, hL => by
  have h1 := hL x List.mem_cons_self
  have h2 := Yyk f h g r fun y hy => hL y (List.mem_cons_of_mem _ hy)
  simp only [List.map_cons, Yhb]; omega
theorem Y1c4 (g : List Int -> List Int) : ∀ s : YS, Yhk (Yht g s) = Yhk s := by
 refine YS.ind fun s ih => ?_
 rw [Yi9, Yi9 s, Yvd]
 have : ∀ L : List YS, (∀ x ∈ L, Yhk (Yht g x) = Yhk x) -> Yhb Yhk (L.map (Yht g)) = Yhb Yhk L := by
  intro L
  induction L with
  | nil => intro _; rfl
  | cons x r ihr =>
   intro h
   simp only [List.map_cons, Yhb, h x List.mem_cons_self, ihr fun y hy => h y (List.mem_cons_of_mem _ hy)]
 simp only; rw [this s.items ih]
theorem Y1hv {g : List Int -> List Int} (hg : ∀ L, Yk8 L = true -> Yk8 (g L) = true) : ∀ s : YS, okY s = true -> okY (Yht g s) = true := by
 refine YS.ind fun s ih h => ?_
 rw [Ymh, Bool.and_eq_true, List.all_eq_true] at h ⊢
 rw [Yvd]
 refine ⟨fun x hx => ?_, ?_⟩
 ·obtain ⟨y, hy, rfl⟩ := List.mem_map.1 hx
  exact ih y hy (h.1 y hy)
 ·have h2 := h.2
  simp only [Ymu, Bool.and_eq_true, List.length_map] at h2 ⊢
  by_cases hk : s.kind = 1
  ·rw [if_pos hk]
   exact ⟨⟨h2.1.1, hg _ h2.1.2⟩, by simp [hk]⟩
  ·rw [if_neg hk]; exact h2
theorem Y12t {g : List Int -> List Int} (hg : ∀ L, (g L).length <= L.length + 1) : ∀ s : YS, wY (Yht g s) <= wY s + Yhk s := by
 refine YS.ind fun s ih => ?_
 have h1 := Yyk wY (fun x => wY x + Yhk x) (Yht g) s.items ih
 have h2 : Yhb (fun x => wY x + Yhk x) s.items = Yhb wY s.items + Yhb Yhk s.items := by
  generalize s.items = L
  induction L with
  | nil => rfl
  | cons x r ih => simp only [Yhb]; omega
 have h3 := Yj6 (Yht g s)
 have h4 := Yj6 s
 have h5 := Yi9 s
 have h6 := hg s.scopes
 have h7 : (Yht g s).text = s.text /\ (Yht g s).items = s.items.map (Yht g) /\ ((Yht g s).scopes = g s.scopes ∨ (Yht g s).scopes = s.scopes) := by
  rw [Yvd]; refine ⟨rfl, rfl, ?_⟩
  by_cases hk : s.kind = 1
  ·exact .inl (if_pos hk)
  ·exact .inr (if_neg hk)
 rw [h7.1, h7.2.1, List.length_map] at h3
 rcases h7.2.2 with h8 | h8 <;> rw [h8] at h3 <;> omega
theorem Y1kc {n : Int} (hn : 1 <= n /\ n <= 99999) : ∀ L, Yk8 L = true -> Yk8 (Yi3 n L) = true := fun L h => (Ywh _).2 (Y17f hn L ((Ywh L).1 h)).1
def scU (x : YE) : Int := nxt x.scope 3
def scA (x : YE) : Int := nxS x.scope 3
def scI (x : YE) : Int := nxt (scA x) 2
def Ynf (x : YE) (s : YS) : YS := Yht (Yi7 (scI x)) (Yht (Yi3 (scU x)) s)
def ruS (x : YE) (m : Int) : YR := x.macros.getD m.toNat default
def Ykj (x : YE) (m : Int) (s : YS) : Int := if x.steps = 0 then 7 else if nxR x.scope 3 <= 99999 /\ nxR (scA x) 2 <= 99999 then (if apB x.bindings (ruS x m) (Ynf x s) = true then 0 else 6) else 8
def Ynw (x : YE) (m : Int) (s : YS) : YS := if Ykj x m s = 0 then Yht (Yi7 (scI x)) (apY x.bindings (ruS x m) (Ynf x s)) else zY
set_option maxHeartbeats 4000000
abbrev Y1iz (n : Int) : SV := .one (.val (.cap (.int .i64 n)))
abbrev Y1jo (f : FuncId) (n : Int) : SV := .one (.val (.clo f (.int .i64 n)))
abbrev Z7q (L : List Int) (n : Int) : Ct := ⟨263, [], [ll (L.map Yhd), li n], [.arr true 1 ((Yi3 n L).map Yhd)], .sv (.one (.ref 0))⟩
def Z6q (L : List Int) (n : Int) : Lp Nat := .mk 42 0 (fun x => [(1, li n), (5, .one (.ref 0)), (6, hs x 1), (10, ll (L.map Yhd)), (11, li (↑(List.map Yhd
 L).length : Int)), (12, hs x 0)]) (fun x => [ho x 2]) (fun k => [.s (li (k : Int)), .s (lb (plN n (L.take k))), .o (.arr true 1 ((Yit n L k).map Yhd))]) (fun k => k
 <= L.length /\ L.length <= 9223372036854775807) (fun k => L.length - k) [.mk True (.exit 0) (fun x => [(1, li n), (5, .one (.ref 0)), (6, hs x 0)]) (fun x => [ho x 1]) [.s (lb
 (plN n (List.take L.length L))), .o (.arr true 1 ((Yit n L L.length).map Yhd))]]
theorem Zg3 (L : List Int) (n : Int) (h : L.length <= 2147483600) : Lp.Sem Tryz.prog (Yhp Tryz.f263 0) (Z6q L n) := Yhz (fun k => .i ((k : Int) < (↑(List.map Yhd
 L).length : Int)) (.x (k : Int) (L.map Yhd) [cI (L.getD k 0)] (.b (!plN n (L.take k)) (.i (n <= L.getD k 0) (.i (n < L.getD k 0) (.p ((((Yit n L
 k).map Yhd).length + 1) * 8 <= 140737488355328) (.p ((((Yit n L k).map Yhd ++ [[cI n]]).length + 1) * 8 <= 140737488355328) (.r ((k : Int) + 1) (.g [4] (k + 1) [.s (li ((k : Int) +
 1)), .s (lb true), .o (.arr true 1 ((Yit n L k).map Yhd ++ [[cI n]] ++ [[cI (L.getD k 0)]]))])))) (.p ((((Yit n L k).map Yhd).length + 1) * 8 <= 140737488355328)
 (.r ((k : Int) + 1) (.g [2] (k + 1) [.s (li ((k : Int) + 1)), .s (lb true), .o (.arr true 1 ((Yit n L k).map Yhd ++ [[cI (L.getD k 0)]]))])))) (.p (((List.map Yhd
 (Yit n L k)).length + 1) * 8 <= 140737488355328) (.r ((k : Int) + 1) (.g [2] (k + 1) [.s (li ((k : Int) + 1)), .s (lb (plN n (L.take k))), .o (.arr true 1 (List.map Yhd
 (Yit n L k) ++ [[cI (L.getD k 0)]]))])))) (.y false (.p ((((Yit n L k).map Yhd).length + 1) * 8 <= 140737488355328) (.r ((k : Int) + 1) (.g [2] (k + 1) [.s (li ((k : Int)
 + 1)), .s (lb (plN n (L.take k))), .o (.arr true 1 ((Yit n L k).map Yhd ++ [[cI (L.getD k 0)]]))])))))) (.o 0 [0] [.s (lb (plN n (L.take k))), .o (.arr true 1
 ((Yit n L k).map Yhd))])) (by
 intro k h; try dsimp only [Yhf, Yhl, Z6q] at h ⊢
 have g1 := @Yov n L k
 have g2 := @Y18b n L k
 have g3 := @Y16t n L k
 have g4 := @Y18r n L k
 have g5 := @Y12p n L k
 have g6 := Yt5 n L k
 with_reducible repeat' (first | apply And.intro | exact zR | (intro))
 all_goals ((try simp only [std, inj] at *); with_reducible and_intros)
 all_goals try first | exact zw | grind [Yhi, Yhh, Yhe])
theorem Z2p (L : List Int) (n : Int) (h : L.length <= 2147483600)  : Z7q L n := Yhq Tryz.call263 Tryz.func263 (.w (.bool false) (.z Yhd L (.l (Z6q L n) (Zg3 L n
 h) [0] [.s (li 0), .s (lb false), .o (.arr true 1 [])] 0 (.t (.b (!plN n (List.take L.length L)) (.p ((((Yit n L L.length).map Yhd).length + 1) * 8 <= 140737488355328) (.f
 [2] [.arr true 1 ((Yit n L L.length).map Yhd ++ [[cI n]])] (.sv (.one (.ref 0))))) (.f [0] [.arr true 1 ((Yit n L L.length).map Yhd)] (.sv (.one
 (.ref 0))))) .q)))) (by
 dsimp only [Yhf, Z7q, Yhl, Z6q]
 have g1 := @Y15d n L L.length
 have g2 : Yit n L 0 = [] := rfl
 have g3 : plN n (L.take 0) = false := rfl
 have g4 := Yt5 n L L.length
 with_reducible repeat' (first | apply And.intro | exact zR | (intro))
 all_goals ((try simp only [std, inj] at *); with_reducible and_intros)
 all_goals try first | exact zw | grind [Yhi, Yhh, Yhe])
abbrev Z7r (L : List Int) (n : Int) : Ct := ⟨271, [], [ll (L.map Yhd), li n], [.arr true 1 ((Yi3 n L).map Yhd)], .sv (.one (.ref 0))⟩
def Z6r (L : List Int) (n : Int) : Lp Nat := .mk 41 0 (fun x => [(1, li n), (5, .one (.ref 0)), (6, hs x 1), (9, ll (L.map Yhd)), (10, li (↑(L.map Yhd).length
 : Int)), (11, hs x 0)]) (fun x => [ho x 2]) (fun k => [.s (li (k : Int)), .s (lb (plN n (L.take k))), .o (.arr true 1 ((Yit n L k).map Yhd))]) (fun k => k <=
 L.length /\ L.length <= 9223372036854775807) (fun k => L.length - k) [.mk True (.exit 0) (fun x => [(1, li n), (5, .one (.ref 0)), (6, hs x 0)]) (fun x => [ho x 1]) [.s (lb (plN
 n (List.take L.length L))), .o (.arr true 1 ((Yit n L L.length).map Yhd))]]
theorem Zg4 (L : List Int) (n : Int) (h : L.length <= 2147483600) : Lp.Sem Tryz.prog (Yhp Tryz.f271 0) (Z6r L n) := Yhz (fun k => .i ((k : Int) < (↑(List.map Yhd
 L).length : Int)) (.x (k : Int) (L.map Yhd) [cI (L.getD k 0)] (.b (!plN n (L.take k)) (.i (n <= L.getD k 0) (.i (L.getD k (0 : Int) ≠ n) (.p ((((Yit n L
 k).map Yhd).length + 1) * 8 <= 140737488355328) (.p ((((Yit n L k).map Yhd ++ [[cI n]]).length + 1) * 8 <= 140737488355328) (.r ((k : Int) + 1) (.g [4] (k + 1) [.s (li ((k : Int) +
 1)), .s (lb true), .o (.arr true 1 ((Yit n L k).map Yhd ++ [[cI n]] ++ [[cI (L.getD k 0)]]))])))) (.p ((((Yit n L k).map Yhd).length + 1) * 8 <= 140737488355328)
 (.r ((k : Int) + 1) (.g [2] (k + 1) [.s (li ((k : Int) + 1)), .s (lb true), .o (.arr true 1 ((Yit n L k).map Yhd ++ [[cI (L.getD k 0)]]))])))) (.p (((List.map Yhd
 (Yit n L k)).length + 1) * 8 <= 140737488355328) (.r ((k : Int) + 1) (.g [2] (k + 1) [.s (li ((k : Int) + 1)), .s (lb (plN n (L.take k))), .o (.arr true 1 (List.map Yhd
 (Yit n L k) ++ [[cI (L.getD k 0)]]))])))) (.y false (.p ((((Yit n L k).map Yhd).length + 1) * 8 <= 140737488355328) (.r ((k : Int) + 1) (.g [2] (k + 1) [.s (li ((k : Int)
 + 1)), .s (lb (plN n (L.take k))), .o (.arr true 1 ((Yit n L k).map Yhd ++ [[cI (L.getD k 0)]]))])))))) (.o 0 [0] [.s (lb (plN n (L.take k))), .o (.arr true 1
 ((Yit n L k).map Yhd))])) (by
 intro k h; try dsimp only [Yhf, Yhl, Z6r] at h ⊢
 have g1 := @Yov n L k
 have g2 := @Y18b n L k
 have g3 := @Y16t n L k
 have g4 := @Y18r n L k
 have g5 := @Y12p n L k
 have g6 := Yt5 n L k
 with_reducible repeat' (first | apply And.intro | exact zR | (intro))
 all_goals ((try simp only [std, inj] at *); with_reducible and_intros)
 all_goals try first | exact zw | grind [Yhi, Yhh, Yhe])
theorem Za5 (L : List Int) (n : Int) (h : L.length <= 2147483600)  : Z7r L n := Yhq Tryz.call271 Tryz.func271 (.z Yhd L (.w (.ghost (.nilreg 5 true 1)) (.l (Z6r L n)
 (Zg4 L n h) [0] [.s (li 0), .s (lb false), .o (.arr true 1 [])] 0 (.t (.b (!plN n (List.take L.length L)) (.p ((((Yit n L L.length).map Yhd).length + 1) * 8 <=
 140737488355328) (.f [2] [.arr true 1 ((Yit n L L.length).map Yhd ++ [[cI n]])] (.sv (.one (.ref 0))))) (.f [0] [.arr true 1 ((Yit n L L.length).map Yhd)]
 (.sv (.one (.ref 0))))) .q)))) (by
 dsimp only [Yhf, Z7r, Yhl, Z6r]
 have g1 := @Y15d n L L.length
 have g2 : Yit n L 0 = [] := rfl
 have g3 : plN n (L.take 0) = false := rfl
 have g4 := Yt5 n L L.length
 with_reducible repeat' (first | apply And.intro | exact zR | (intro))
 all_goals ((try simp only [std, inj] at *); with_reducible and_intros)
 all_goals try first | exact zw | grind [Yhi, Yhh, Yhe])
def Yku (n : Int) (L : List Int) : List Int := L.filter fun x => decide (x ≠ n)
theorem Y10x {n : Int} {L : List Int} {k : Nat} (h : k < L.length) : Yku n (L.take (k + 1)) = if L.getD k 0 = n then Yku n (L.take k) else Yku n (L.take k) ++ [L.getD k 0] := by
 have e := Yhy h
 unfold Yku; rw [e, List.filter_append]
 show _ ++ List.filter _ [L.getD k 0] = _
 generalize L.getD k 0 = y
 by_cases hx : y = n
 ·rw [if_pos hx]; simp [hx]
 ·rw [if_neg hx]; simp [hx]
theorem Y15z (n : Int) (L : List Int) (k : Nat) : (Yku n (L.take k)).length <= L.length := by
 have h1 := List.length_filter_le (fun x => decide (x ≠ n)) (L.take k)
 have h2 : (L.take k).length <= L.length := by rw [List.length_take]; omega
 unfold Yku; omega
theorem Y170 {n : Int} {L : List Int} (h : n ∈ L) : Yi7 n L = Yku n L := if_pos h
theorem Y15g {n : Int} {L : List Int} (h : ¬ n ∈ L) : Yi7 n L = Yi3 n L := if_neg h
abbrev Z8e (L : List Int) (n : Int) : Ct := ⟨264, [], [ll (L.map Yhd), li n], [.arr true 1 ((Yi7 n L).map Yhd)], .sv (.one (.ref 0))⟩
def Z5p (L : List Int) (n : Int) : Lp Nat := .mk 31 0 (fun x => [(1, li n), (5, .one (.ref 0)), (16, ll (L.map Yhd)), (17, li (↑(L.map Yhd).length : Int)),
 (18, hs x 0)]) (fun x => [ho x 1]) (fun k => [.s (li (k : Int)), .o (.arr true 1 ((Yku n (L.take k)).map Yhd))]) (fun k => k <= L.length /\ L.length <=
 9223372036854775807) (fun k => L.length - k) [.mk True (.exit 0) (fun x => [(5, .one (.ref 0))]) (fun x => [ho x 0]) [.o (.arr true 1 ((Yku n L).map Yhd))]]
theorem Zf3 (L : List Int) (n : Int) (h : L.length <= 2147483600) : Lp.Sem Tryz.prog (Yhp Tryz.f264 0) (Z5p L n) := Yhz (fun k => .i ((k : Int) < (↑(List.map Yhd
 L).length : Int)) (.x (k : Int) (L.map Yhd) [cI (L.getD k 0)] (.i (L.getD k (0 : Int) ≠ n) (.p ((((Yku n (L.take k)).map Yhd).length + 1) * 8 <= 140737488355328)
 (.r ((k : Int) + 1) (.g [2] (k + 1) [.s (li ((k : Int) + 1)), .o (.arr true 1 ((Yku n (L.take k)).map Yhd ++ [[cI (L.getD k 0)]]))]))) (.r ((k : Int) + 1) (.g [0]
 (k + 1) [.s (li ((k : Int) + 1)), .o (.arr true 1 ((Yku n (L.take k)).map Yhd))])))) (.o 0 [0] [.o (.arr true 1 ((Yku n (L.take k)).map Yhd))])) (by
 intro k h; try dsimp only [Yhf, Yhl, Z5p] at h ⊢
 have g1 := @Y10x n L k
 have g2 := Y15z n L k
 have g3 : L.length <= k -> L.take k = L := fun h => List.take_of_length_le h
 with_reducible repeat' (first | apply And.intro | exact zR | (intro) | apply Z2p)
 all_goals ((try simp only [std, inj] at *); with_reducible and_intros)
 all_goals try first | with_reducible (first | apply Z2p) | (simp only [<- List.map_append]; with_reducible first | apply Z2p)
 all_goals try first | exact zw | grind [Yhi, Yhh, Yhe])
theorem Z75 (L : List Int) (n : Int) (h : L.length <= 2147483600)  : Z8e L n := Yhq Tryz.call264 Tryz.func264 (.c [.rd, .rd] (Zfp L n) (.b (!decide (n ∈ L)) (.d [.rd,
 .rd] (Z7q L n) (.f [0] [.arr true 1 ((Yi3 n L).map Yhd)] (.sv (.one (.ref 0))))) (.w (.bool false) (.z Yhd L (.l (Z5p L n) (Zf3 L n h) [0] [.s
 (li 0), .o (.arr true 1 [])] 0 (.t (.f [0] [.arr true 1 ((Yku n L).map Yhd)] (.sv (.one (.ref 0)))) .q)))))) (by
 dsimp only [Yhf, Z8e, Yhl, Z5p]
 have g1 := @Y170 n L
 have g2 := @Y15g n L
 have g3 : Yku n (L.take 0) = [] := rfl
 with_reducible repeat' (first | apply And.intro | exact zR | (intro) | apply Z2p)
 all_goals ((try simp only [std, inj] at *); with_reducible and_intros)
 all_goals try with_reducible first | apply Z2p
 all_goals try first | exact zw | grind [Yhi, Yhh, Yhe])
abbrev Z8f (L : List Int) (n : Int) : Ct := ⟨307, [], [ll (L.map Yhd), li n], [.arr true 1 ((Yku n L).map Yhd)], .sv (.one (.ref 0))⟩
def Z5q (L : List Int) (n : Int) : Lp Nat := .mk 23 0 (fun x => [(1, li n), (5, .one (.ref 0)), (8, ll (L.map Yhd)), (9, li (↑(L.map Yhd).length : Int)),
 (10, hs x 0)]) (fun x => [ho x 1]) (fun k => [.s (li (k : Int)), .o (.arr true 1 ((Yku n (L.take k)).map Yhd))]) (fun k => k <= L.length /\ L.length <=
 9223372036854775807) (fun k => L.length - k) [.mk True (.exit 0) (fun x => [(5, .one (.ref 0))]) (fun x => [ho x 0]) [.o (.arr true 1 ((Yku n L).map Yhd))]]
theorem Zf4 (L : List Int) (n : Int) (h : L.length <= 2147483600) : Lp.Sem Tryz.prog (Yhp Tryz.f307 0) (Z5q L n) := Yhz (fun k => .i ((k : Int) < (↑(List.map Yhd
 L).length : Int)) (.x (k : Int) (L.map Yhd) [cI (L.getD k 0)] (.i (L.getD k (0 : Int) ≠ n) (.p ((((Yku n (L.take k)).map Yhd).length + 1) * 8 <= 140737488355328)
 (.r ((k : Int) + 1) (.g [2] (k + 1) [.s (li ((k : Int) + 1)), .o (.arr true 1 ((Yku n (L.take k)).map Yhd ++ [[cI (L.getD k 0)]]))]))) (.r ((k : Int) + 1) (.g [0]
 (k + 1) [.s (li ((k : Int) + 1)), .o (.arr true 1 ((Yku n (L.take k)).map Yhd))])))) (.o 0 [0] [.o (.arr true 1 ((Yku n (L.take k)).map Yhd))])) (by
 intro k h; try dsimp only [Yhf, Yhl, Z5q] at h ⊢
 have g1 := @Y10x n L k
 have g2 := Y15z n L k
 have g3 : L.length <= k -> L.take k = L := fun h => List.take_of_length_le h
 with_reducible repeat' (first | apply And.intro | exact zR | (intro))
 all_goals ((try simp only [std, inj] at *); with_reducible and_intros)
 all_goals try first | exact zw | grind [Yhi, Yhh, Yhe])
theorem Ze7 (L : List Int) (n : Int) (h : L.length <= 2147483600)  : Z8f L n := Yhq Tryz.call307 Tryz.func307 (.z Yhd L (.w (.ghost (.nilreg 5 true 1)) (.l (Z5q L
 n) (Zf4 L n h) [0] [.s (li 0), .o (.arr true 1 [])] 0 (.t (.f [0] [.arr true 1 ((Yku n L).map Yhd)] (.sv (.one (.ref 0)))) .q)))) (by
 dsimp only [Yhf, Z8f, Yhl, Z5q]
 have g3 : Yku n (L.take 0) = [] := rfl
 with_reducible repeat' (first | apply And.intro | exact zR | (intro))
 all_goals ((try simp only [std, inj] at *); with_reducible and_intros)
 all_goals try first | exact zw | grind [Yhi, Yhh, Yhe])
abbrev Z8g (L : List Int) (n : Int) : Ct := ⟨269, [], [ll (L.map Yhd), li n], [.arr true 1 ((Yi7 n L).map Yhd)], .sv (.one (.ref 0))⟩
theorem Ze8 (L : List Int) (n : Int) (h : L.length <= 2147483600 /\ Yk8 L = true /\ 1 <= n /\ n <= 99999)  : Z8g L n := Yhq Tryz.call269 Tryz.func269 (.c [.rd] (Z1i L)
 (.b (!Yk8 L) (.y true (.d [.rd] (Zl L) (.f [0] [.arr true 1 (L.map Yhd)] (.sv (.one (.ref 0)))))) (.c [.rd] (Zaf n) (.i (Ym1 n = 0) (.d [.rd]
 (Zl L) (.f [0] [.arr true 1 (L.map Yhd)] (.sv (.one (.ref 0))))) (.c [.rd, .rd] (Ze6 L n) (.i (n ∈ L) (.d [.rd, .rd] (Z8f L n) (.f [0] [.arr true
 1 ((Yku n L).map Yhd)] (.sv (.one (.ref 0))))) (.d [.rd, .rd] (Z7r L n) (.f [0] [.arr true 1 ((Yi3 n L).map Yhd)] (.sv (.one (.ref 0)))))))))))
 (by
 dsimp only [Yhf, Z8g]
 have g1 := @Y170 n L
 have g2 := @Y15g n L
 have g3 : 1 <= n -> n <= 99999 -> Ym1 n ≠ 0 := fun a b => by unfold Ym1; rw [if_pos ⟨a, b⟩]; split <;> omega
 with_reducible repeat' (first | apply And.intro | exact zR | (intro) | apply Z1i | apply Z2 | apply Ze7 | apply Za5)
 all_goals ((try simp only [std, inj] at *); with_reducible and_intros)
 all_goals try with_reducible first | apply Z1i | apply Z2 | apply Ze7 | apply Za5
 all_goals try first | exact zw | grind [Yhi, Yhh, Yhe])
abbrev Z9n (L : List Int) (n : Int) : Ct := ⟨270, [], [ll (L.map Yhd), Y1iz n], [.arr true 1 ((Yi3 n L).map Yhd)], .sv (.one (.ref 0))⟩
theorem Z8h (L : List Int) (n : Int) (h : L.length <= 2147483600)  : Z9n L n := Yhq Tryz.call270 Tryz.func270 (.d [.rd, .rd] (Z7r L n) (.f [0] [.arr true 1 (List.map
 Yhd (Yi3 n L))] (.sv (.one (.ref 0))))) (by
 dsimp only [Yhf, Z9n]
 with_reducible repeat' (first | apply And.intro | exact zR | (intro) | apply Za5)
 all_goals ((try simp only [std, inj] at *); with_reducible and_intros)
 all_goals try with_reducible first | apply Za5
 all_goals try first | exact zw | grind [Yhi, Yhh, Yhe])
abbrev Z9o (L : List Int) (n : Int) : Ct := ⟨268, [], [ll (L.map Yhd), Y1iz n], [.arr true 1 ((Yi7 n L).map Yhd)], .sv (.one (.ref 0))⟩
theorem Z8i (L : List Int) (n : Int) (h : L.length <= 2147483600 /\ Yk8 L = true /\ 1 <= n /\ n <= 99999)  : Z9o L n := Yhq Tryz.call268 Tryz.func268 (.d [.rd, .rd] (Z8g L
 n) (.f [0] [.arr true 1 ((Yi7 n L).map Yhd)] (.sv (.one (.ref 0))))) (by
 dsimp only [Yhf, Z9o]
 with_reducible repeat' (first | apply And.intro | exact zR | (intro) | apply Ze8)
 all_goals ((try simp only [std, inj] at *); with_reducible and_intros)
 all_goals try with_reducible first | apply Ze8
 all_goals try first | exact zw | grind [Yhi, Yhh, Yhe])
theorem Yxj {g : List Int -> List Int} {s : YS} : (Yht g s).kind = s.kind /\ (Yht g s).number = s.number /\ (Yht g s).text = s.text /\ (Yht g s).items = s.items.map (Yht g) /\ (s.kind = 1 -> (Yht g s).scopes = g s.scopes) /\ (¬ s.kind = 1 -> (Yht g s).scopes = s.scopes) := by
 rw [Yvd]; exact ⟨rfl, rfl, rfl, rfl, fun h => if_pos h, fun h => if_neg h⟩
theorem Yr7 {g : List Int -> List Int} {L : List YS} {k : Nat} (h : k < L.length) : (L.take (k + 1)).map (Yht g) = (L.take k).map (Yht g) ++ [Yht g (L.getD k default)] := by
 rw [Yhy h]; simp
theorem Yy7 {s : YS} (h : okY s = true) : Yk8 s.scopes = true := by
 rw [Ymh, Bool.and_eq_true] at h
 have := h.2
 simp only [Ymu, Bool.and_eq_true] at this
 exact this.1.2
abbrev Z1l (s : YS) (n : Int) : Ct := ⟨199, [], [Yhu s, li 1, li n], Yk5 (Yht (Yi3 n) s), .sv (Yjx (Yht (Yi3 n) s) 0)⟩
def Z28 (s : YS) (n : Int) : Lp Nat := .mk 62 0 (fun x => [(1, li 1), (2, li n), (6, .one (.ptr 0 0)), (7, .one (.ptr 1 0)), (45, ll (List.map Yh9
 s.items)), (46, li (↑(s.items.map Yh9).length : Int)), (47, hs x 0)]) (fun x => [.box [vI 0, vI 0, vS (ByteArray.mk #[]), .val (.lit (.slice none 0 0)),
 .val (.lit (.slice none 0 0))], .box [vI s.kind, vI s.number, vS s.text, .ref 2, .ref 3], ho x 2, ho x 1]) (fun k => [.s (li (k : Int)), .o (.arr true 5
 ((List.map (Yht (Yi3 n)) (s.items.take k)).map Yh9)), .o (.arr true 1 ((Yht (Yi3 n) s).scopes.map Yhd))]) (fun k => k <= s.items.length /\ s.items.length <=
 9223372036854775807) (fun k => s.items.length - k) [.mk True (.exit 1) (fun x => [(6, .one (.ptr 0 0)), (7, .one (.ptr 1 0))]) (fun x => [.box [vI 0, vI 0, vS
 (ByteArray.mk #[]), .val (.lit (.slice none 0 0)), .val (.lit (.slice none 0 0))], .box [vI s.kind, vI s.number, vS s.text, .ref 2, .ref 3], ho x 1, ho
 x 0]) [.o (.arr true 5 ((List.map (Yht (Yi3 n)) s.items).map Yh9)), .o (.arr true 1 ((Yht (Yi3 n) s).scopes.map Yhd))]]
theorem Z8j (s : YS) (n : Int) (h : wY s <= 1000000000) (ih : ∀ (z : YS), z ∈ s.items -> ∀ (n : Int), wY z <= 1000000000 -> OK (Z1l z n)) : Lp.Sem Tryz.prog
 (Yhp Tryz.f199 0) (Z28 s n) := Yhz (fun k => .i ((k : Int) < (↑(s.items.map Yh9).length : Int)) (.x (k : Int) (s.items.map Yh9) (Yhg
 (s.items.getD k default)) (.w (.draw [(6, [5, 6]), (7, [3, 13]), (9, [1])]) (.d [.rd, .rd, .rd] (Z1l (s.items.getD k default) n) (.p ((((List.map (Yht
 (Yi3 n)) (s.items.take k)).map Yh9).length + 1) * 80 <= 140737488355328) (.r ((k : Int) + 1) (.g [0, 1, 2, 14] (k + 1) [.s (li ((k : Int) + 1)), .o (.arr true 5 (List.map Yh9
 (List.map (Yht (Yi3 n)) (s.items.take k)) ++ [Yhg (Yht (Yi3 n) (s.items.getD k default))])), .o (.arr true 1 ((Yht (Yi3 n) s).scopes.map Yhd))])))))) (.o 0
 [0, 1, 2, 3] [.o (.arr true 5 ((List.map (Yht (Yi3 n)) (s.items.take k)).map Yh9)), .o (.arr true 1 ((Yht (Yi3 n) s).scopes.map Yhd))])) (by
 intro k h; try dsimp only [Yhf, Yhl, Z28] at h ⊢
 have g1 := Yj6 s
 have g2 := @Yi4 _ wY s.items (s.items.getD k default)
 have g3 := @Yr7 (Yi3 n) s.items k
 with_reducible repeat' (first | apply And.intro | exact zR | exact ih | (intro) | apply Z7 | apply Z2p | apply ih)
 all_goals ((try simp only [std, inj] at *); with_reducible and_intros)
 all_goals try first | with_reducible (first | apply Z7 | apply Z2p | apply ih) | (simp only [<- List.map_append]; with_reducible first | apply Z7 | apply Z2p | apply ih)
 all_goals try first | exact zw | grind [Yhj, Yhi, Yhh, Yhe, Yhj])
theorem Zg5 (s : YS) (n : Int) (h : wY s <= 1000000000) (ih : ∀ z ∈ s.items, ∀ (n : Int) (h : wY z <= 1000000000), Z1l z n)  : Z1l s n := Yhq Tryz.call199
 Tryz.func199 (.w (.draw [(11, [10])]) (.d [.rd] (Z3f s.scopes) (.i (s.kind = 1) (.y true (.d [.rd, .rd] (Z7q s.scopes n) (.z Yh9 s.items (.w (.ghost (.nilbox 10 4
 true 5)) (.l (Z28 s n) (Z8j s n h ih) [1, 10, 11, 12] [.s (li 0), .o (.arr true 5 []), .o (.arr true 1 ((Yi3 n s.scopes).map Yhd))] 0 (.t (.f [2, 3]
 [.arr true 1 ((Yht (Yi3 n) s).scopes.map Yhd), .arr true 5 ((List.map (Yht (Yi3 n)) s.items).map Yh9)] (.sv (.agg [vI s.kind, vI s.number, vS s.text,
 .ref 0, .ref 1]))) .q)))))) (.z Yh9 s.items (.w (.ghost (.nilbox 10 4 true 5)) (.l (Z28 s n) (Z8j s n h ih) [1, 10, 2, 11] [.s (li 0), .o (.arr true 5
 []), .o (.arr true 1 (s.scopes.map Yhd))] 0 (.t (.f [2, 3] [.arr true 1 ((Yht (Yi3 n) s).scopes.map Yhd), .arr true 5 ((List.map (Yht (Yi3
 n)) s.items).map Yh9)] (.sv (.agg [vI s.kind, vI s.number, vS s.text, .ref 0, .ref 1]))) .q))))))) (by
 dsimp only [Yhf, Z1l, Yhl, Z28]
 have g1 := Yj6 s
 have g2 := @Yxj (Yi3 n) s
 with_reducible repeat' (first | apply And.intro | exact zR | exact ih | (intro) | apply Z7 | apply Z2p)
 all_goals ((try simp only [std, inj] at *); with_reducible and_intros)
 all_goals try with_reducible first | apply Z7 | apply Z2p | apply ih
 all_goals try first | exact zw | grind [Yhi, Yhh, Yhe])
theorem Ze9 (s : YS) : ∀ (n : Int) (h : wY s <= 1000000000), Z1l s n := YS.ind (P := fun s => ∀ (n : Int) (h : wY s <= 1000000000), Z1l s n) (fun s ih n h => Zg5 s n h ih) s
abbrev Z19 (s : YS) (n : Int) : Ct := ⟨199, [], [Yhu s, li 2, li n], Yk5 (Yht (Yi7 n) s), .sv (Yjx (Yht (Yi7 n) s) 0)⟩
def Z29 (s : YS) (n : Int) : Lp Nat := .mk 62 0 (fun x => [(1, li 2), (2, li n), (6, .one (.ptr 0 0)), (7, .one (.ptr 1 0)), (45, ll (List.map Yh9
 s.items)), (46, li (↑(s.items.map Yh9).length : Int)), (47, hs x 0)]) (fun x => [.box [vI 0, vI 0, vS (ByteArray.mk #[]), .val (.lit (.slice none 0 0)),
 .val (.lit (.slice none 0 0))], .box [vI s.kind, vI s.number, vS s.text, .ref 2, .ref 3], ho x 2, ho x 1]) (fun k => [.s (li (k : Int)), .o (.arr true 5
 ((List.map (Yht (Yi7 n)) (s.items.take k)).map Yh9)), .o (.arr true 1 ((Yht (Yi7 n) s).scopes.map Yhd))]) (fun k => k <= s.items.length /\ s.items.length <=
 9223372036854775807) (fun k => s.items.length - k) [.mk True (.exit 1) (fun x => [(6, .one (.ptr 0 0)), (7, .one (.ptr 1 0))]) (fun x => [.box [vI 0, vI 0, vS
 (ByteArray.mk #[]), .val (.lit (.slice none 0 0)), .val (.lit (.slice none 0 0))], .box [vI s.kind, vI s.number, vS s.text, .ref 2, .ref 3], ho x 1, ho
 x 0]) [.o (.arr true 5 ((List.map (Yht (Yi7 n)) s.items).map Yh9)), .o (.arr true 1 ((Yht (Yi7 n) s).scopes.map Yhd))]]
theorem Z8k (s : YS) (n : Int) (h : wY s <= 1000000000) (ih : ∀ (z : YS), z ∈ s.items -> ∀ (n : Int), wY z <= 1000000000 -> OK (Z19 z n)) : Lp.Sem Tryz.prog
 (Yhp Tryz.f199 0) (Z29 s n) := Yhz (fun k => .i ((k : Int) < (↑(s.items.map Yh9).length : Int)) (.x (k : Int) (s.items.map Yh9) (Yhg
 (s.items.getD k default)) (.w (.draw [(6, [5, 6]), (7, [3, 13]), (9, [1])]) (.d [.rd, .rd, .rd] (Z19 (s.items.getD k default) n) (.p ((((List.map (Yht
 (Yi7 n)) (s.items.take k)).map Yh9).length + 1) * 80 <= 140737488355328) (.r ((k : Int) + 1) (.g [0, 1, 2, 14] (k + 1) [.s (li ((k : Int) + 1)), .o (.arr true 5 (List.map Yh9
 (List.map (Yht (Yi7 n)) (s.items.take k)) ++ [Yhg (Yht (Yi7 n) (s.items.getD k default))])), .o (.arr true 1 ((Yht (Yi7 n) s).scopes.map Yhd))])))))) (.o 0
 [0, 1, 2, 3] [.o (.arr true 5 ((List.map (Yht (Yi7 n)) (s.items.take k)).map Yh9)), .o (.arr true 1 ((Yht (Yi7 n) s).scopes.map Yhd))])) (by
 intro k h; try dsimp only [Yhf, Yhl, Z29] at h ⊢
 have g1 := Yj6 s
 have g2 := @Yi4 _ wY s.items (s.items.getD k default)
 have g3 := @Yr7 (Yi7 n) s.items k
 with_reducible repeat' (first | apply And.intro | exact zR | exact ih | (intro) | apply Z7 | apply Z75 | apply ih)
 all_goals ((try simp only [std, inj] at *); with_reducible and_intros)
 all_goals try first | with_reducible (first | apply Z7 | apply Z75 | apply ih) | (simp only [<- List.map_append]; with_reducible first | apply Z7 | apply Z75 | apply ih)
 all_goals try first | exact zw | grind [Yhj, Yhi, Yhh, Yhe, Yhj])
theorem Zg6 (s : YS) (n : Int) (h : wY s <= 1000000000) (ih : ∀ z ∈ s.items, ∀ (n : Int) (h : wY z <= 1000000000), Z19 z n)  : Z19 s n := Yhq Tryz.call199
 Tryz.func199 (.w (.draw [(11, [10])]) (.d [.rd] (Z3f s.scopes) (.i (s.kind = 1) (.y false (.y true (.d [.rd, .rd] (Z8e s.scopes n) (.z Yh9 s.items (.w (.ghost
 (.nilbox 10 4 true 5)) (.l (Z29 s n) (Z8k s n h ih) [1, 10, 11, 12] [.s (li 0), .o (.arr true 5 []), .o (.arr true 1 ((Yi7 n s.scopes).map Yhd))] 0
 (.t (.f [2, 3] [.arr true 1 ((Yht (Yi7 n) s).scopes.map Yhd), .arr true 5 ((List.map (Yht (Yi7 n)) s.items).map Yh9)] (.sv (.agg [vI s.kind, vI
 s.number, vS s.text, .ref 0, .ref 1]))) .q))))))) (.z Yh9 s.items (.w (.ghost (.nilbox 10 4 true 5)) (.l (Z29 s n) (Z8k s n h ih) [1, 10, 2, 11] [.s (li
 0), .o (.arr true 5 []), .o (.arr true 1 (s.scopes.map Yhd))] 0 (.t (.f [2, 3] [.arr true 1 ((Yht (Yi7 n) s).scopes.map Yhd), .arr true 5 (List.map Yh9
 (List.map (Yht (Yi7 n)) s.items))] (.sv (.agg [vI s.kind, vI s.number, vS s.text, .ref 0, .ref 1]))) .q))))))) (by
 dsimp only [Yhf, Z19, Yhl, Z29]
 have g1 := Yj6 s
 have g2 := @Yxj (Yi7 n) s
 with_reducible repeat' (first | apply And.intro | exact zR | exact ih | (intro) | apply Z7 | apply Z75)
 all_goals ((try simp only [std, inj] at *); with_reducible and_intros)
 all_goals try with_reducible first | apply Z7 | apply Z75 | apply ih
 all_goals try first | exact zw | grind [Yhi, Yhh, Yhe])
theorem Zea (s : YS) : ∀ (n : Int) (h : wY s <= 1000000000), Z19 s n := YS.ind (P := fun s => ∀ (n : Int) (h : wY s <= 1000000000), Z19 s n) (fun s ih n h => Zg6 s n h ih) s
abbrev Z1m (s : YS) (n : Int) : Ct := ⟨204, [], [Yhu s, Y1jo 270 n], Yk5 (Yht (Yi3 n) s), .sv (Yjx (Yht (Yi3 n) s) 0)⟩
def Z2a (s : YS) (n : Int) : Lp Nat := .mk 43 0 (fun x => [(1, .one (.val (.clo 270 (.int .i64 n)))), (4, .one (.ptr 0 0)), (5, .one (.ptr
 1 0)), (27, ll (s.items.map Yh9)), (28, li (↑(s.items.map Yh9).length : Int)), (29, hs x 0)]) (fun x => [.box [vI 0, vI 0, vS (ByteArray.mk #[]), .val
 (.lit (.slice none 0 0)), .val (.lit (.slice none 0 0))], .box [vI s.kind, vI s.number, vS s.text, .ref 2, .ref 3], ho x 2, ho x 1]) (fun k => [.s (li
 (k : Int)), .o (.arr true 5 ((List.map (Yht (Yi3 n)) (s.items.take k)).map Yh9)), .o (.arr true 1 ((Yht (Yi3 n) s).scopes.map Yhd))]) (fun k => k <=
 s.items.length /\ s.items.length <= 9223372036854775807) (fun k => s.items.length - k) [.mk True (.exit 0) (fun x => [(4, .one (.ptr 0 0)), (5, .one (.ptr 1 0))]) (fun x =>
 [.box [vI 0, vI 0, vS (ByteArray.mk #[]), .val (.lit (.slice none 0 0)), .val (.lit (.slice none 0 0))], .box [vI s.kind, vI s.number, vS s.text, .ref
 2, .ref 3], ho x 1, ho x 0]) [.o (.arr true 5 ((List.map (Yht (Yi3 n)) s.items).map Yh9)), .o (.arr true 1 ((Yht (Yi3 n) s).scopes.map Yhd))]]
theorem Z8l (s : YS) (n : Int) (h : wY s <= 1000000000) (ih : ∀ (z : YS), z ∈ s.items -> ∀ (n : Int), wY z <= 1000000000 -> OK (Z1m z n)) : Lp.Sem Tryz.prog
 (Yhp Tryz.f204 0) (Z2a s n) := Yhz (fun k => .i ((k : Int) < (↑(s.items.map Yh9).length : Int)) (.x (k : Int) (s.items.map Yh9) (Yhg
 (s.items.getD k default)) (.w (.draw [(5, [5, 6]), (6, [3, 13]), (8, [1])]) (.d [.rd, .rd] (Z1m (s.items.getD k default) n) (.p ((((List.map (Yht (Yi3 n))
 (s.items.take k)).map Yh9).length + 1) * 80 <= 140737488355328) (.r ((k : Int) + 1) (.g [0, 1, 2, 14] (k + 1) [.s (li ((k : Int) + 1)), .o (.arr true 5 ((List.map
 (Yht (Yi3 n)) (s.items.take k)).map Yh9 ++ [Yhg (Yht (Yi3 n) (s.items.getD k default))])), .o (.arr true 1 ((Yht (Yi3 n) s).scopes.map Yhd))])))))) (.o 0 [0, 1, 2,
 3] [.o (.arr true 5 ((List.map (Yht (Yi3 n)) (s.items.take k)).map Yh9)), .o (.arr true 1 ((Yht (Yi3 n) s).scopes.map Yhd))])) (by
 intro k h; try dsimp only [Yhf, Yhl, Z2a] at h ⊢
 have g1 := Yj6 s
 have g2 := @Yi4 _ wY s.items (s.items.getD k default)
 have g3 := @Yr7 (Yi3 n) s.items k
 with_reducible repeat' (first | apply And.intro | exact zR | exact ih | (intro) | apply Z2 | apply Z8h | apply ih)
 all_goals ((try simp only [std, inj] at *); with_reducible and_intros)
 all_goals try first | with_reducible (first | apply Z2 | apply Z8h | apply ih) | (simp only [<- List.map_append]; with_reducible first | apply Z2 | apply Z8h | apply ih)
 all_goals try first | exact zw | grind [Yhj, Yhi, Yhh, Yhe, Yhj])
theorem Zg7 (s : YS) (n : Int) (h : wY s <= 1000000000) (ih : ∀ z ∈ s.items, ∀ (n : Int) (h : wY z <= 1000000000), Z1m z n)  : Z1m s n := Yhq Tryz.call204
 Tryz.func204 (.w (.draw [(11, [10])]) (.d [.rd] (Zl s.scopes) (.i (s.kind = 1) (.d [.rd, .rd] (Z9n s.scopes n) (.z Yh9 s.items (.w (.ghost (.nilbox 10 4 true 5))
 (.l (Z2a s n) (Z8l s n h ih) [1, 10, 11, 12] [.s (li 0), .o (.arr true 5 []), .o (.arr true 1 ((Yi3 n s.scopes).map Yhd))] 0 (.t (.f [2, 3] [.arr
 true 1 ((Yht (Yi3 n) s).scopes.map Yhd), .arr true 5 ((List.map (Yht (Yi3 n)) s.items).map Yh9)] (.sv (.agg [vI s.kind, vI s.number, vS s.text, .ref 0,
 .ref 1]))) .q))))) (.z Yh9 s.items (.w (.ghost (.nilbox 10 4 true 5)) (.l (Z2a s n) (Z8l s n h ih) [1, 10, 2, 11] [.s (li 0), .o (.arr true 5 []), .o
 (.arr true 1 (s.scopes.map Yhd))] 0 (.t (.f [2, 3] [.arr true 1 ((Yht (Yi3 n) s).scopes.map Yhd), .arr true 5 ((List.map (Yht (Yi3 n))
 s.items).map Yh9)] (.sv (.agg [vI s.kind, vI s.number, vS s.text, .ref 0, .ref 1]))) .q))))))) (by
 dsimp only [Yhf, Z1m, Yhl, Z2a]
 have g1 := Yj6 s
 have g2 := @Yxj (Yi3 n) s
 with_reducible repeat' (first | apply And.intro | exact zR | exact ih | (intro) | apply Z2 | apply Z8h)
 all_goals ((try simp only [std, inj] at *); with_reducible and_intros)
 all_goals try with_reducible first | apply Z2 | apply Z8h | apply ih
 all_goals try first | exact zw | grind [Yhi, Yhh, Yhe])
theorem Zeb (s : YS) : ∀ (n : Int) (h : wY s <= 1000000000), Z1m s n := YS.ind (P := fun s => ∀ (n : Int) (h : wY s <= 1000000000), Z1m s n) (fun s ih n h => Zg7 s n h ih) s
abbrev Z1n (s : YS) (n : Int) : Ct := ⟨204, [], [Yhu s, Y1jo 268 n], Yk5 (Yht (Yi7 n) s), .sv (Yjx (Yht (Yi7 n) s) 0)⟩
def Z2b (s : YS) (n : Int) : Lp Nat := .mk 43 0 (fun x => [(1, .one (.val (.clo 268 (.int .i64 n)))), (4, .one (.ptr 0 0)), (5, .one (.ptr
 1 0)), (27, ll (s.items.map Yh9)), (28, li (↑(s.items.map Yh9).length : Int)), (29, hs x 0)]) (fun x => [.box [vI 0, vI 0, vS (ByteArray.mk #[]), .val
 (.lit (.slice none 0 0)), .val (.lit (.slice none 0 0))], .box [vI s.kind, vI s.number, vS s.text, .ref 2, .ref 3], ho x 2, ho x 1]) (fun k => [.s (li
 (k : Int)), .o (.arr true 5 ((List.map (Yht (Yi7 n)) (s.items.take k)).map Yh9)), .o (.arr true 1 ((Yht (Yi7 n) s).scopes.map Yhd))]) (fun k => k <=
 s.items.length /\ s.items.length <= 9223372036854775807) (fun k => s.items.length - k) [.mk True (.exit 0) (fun x => [(4, .one (.ptr 0 0)), (5, .one (.ptr 1 0))]) (fun x =>
 [.box [vI 0, vI 0, vS (ByteArray.mk #[]), .val (.lit (.slice none 0 0)), .val (.lit (.slice none 0 0))], .box [vI s.kind, vI s.number, vS s.text, .ref
 2, .ref 3], ho x 1, ho x 0]) [.o (.arr true 5 ((List.map (Yht (Yi7 n)) s.items).map Yh9)), .o (.arr true 1 ((Yht (Yi7 n) s).scopes.map Yhd))]]
theorem Z8m (s : YS) (n : Int) (h : wY s <= 1000000000 /\ okY s = true /\ 1 <= n /\ n <= 99999) (ih : ∀ (z : YS), z ∈ s.items -> ∀ (n : Int), wY z <= 1000000000 /\ okY z =
 true /\ 1 <= n /\ n <= 99999 -> OK (Z1n z n)) : Lp.Sem Tryz.prog (Yhp Tryz.f204 0) (Z2b s n) := Yhz (fun k => .i ((k : Int) < (↑(s.items.map Yh9).length :
 Int)) (.x (k : Int) (s.items.map Yh9) (Yhg (s.items.getD k default)) (.w (.draw [(5, [5, 6]), (6, [3, 13]), (8, [1])]) (.d [.rd, .rd] (Z1n (s.items.getD k
 default) n) (.p ((((List.map (Yht (Yi7 n)) (s.items.take k)).map Yh9).length + 1) * 80 <= 140737488355328) (.r ((k : Int) + 1) (.g [0, 1, 2, 14] (k + 1) [.s (li
 ((k : Int) + 1)), .o (.arr true 5 ((List.map (Yht (Yi7 n)) (s.items.take k)).map Yh9 ++ [Yhg (Yht (Yi7 n) (s.items.getD k default))])), .o (.arr true 1
 ((Yht (Yi7 n) s).scopes.map Yhd))])))))) (.o 0 [0, 1, 2, 3] [.o (.arr true 5 ((List.map (Yht (Yi7 n)) (s.items.take k)).map Yh9)), .o (.arr true 1
 ((Yht (Yi7 n) s).scopes.map Yhd))])) (by
 intro k h; try dsimp only [Yhf, Yhl, Z2b] at h ⊢
 have g1 := Yj6 s
 have g2 := @Yi4 _ wY s.items (s.items.getD k default)
 have g3 := @Yr7 (Yi7 n) s.items k
 have g4 := fun h => @Yl3 s h (s.items.getD k default)
 with_reducible repeat' (first | apply And.intro | exact zR | exact ih | (intro) | apply Z2 | apply Z8i | apply ih)
 all_goals ((try simp only [std, inj] at *); with_reducible and_intros)
 all_goals try first | with_reducible (first | apply Z2 | apply Z8i | apply ih) | (simp only [<- List.map_append]; with_reducible first | apply Z2 | apply Z8i | apply ih)
 all_goals try first | exact zw | grind [Yhj, Yhi, Yhh, Yhe, Yhj])
theorem Zg8 (s : YS) (n : Int) (h : wY s <= 1000000000 /\ okY s = true /\ 1 <= n /\ n <= 99999) (ih : ∀ z ∈ s.items, ∀ (n : Int) (h : wY z <= 1000000000 /\ okY z = true /\ 1 <= n /\
 n <= 99999), Z1n z n)  : Z1n s n := Yhq Tryz.call204 Tryz.func204 (.w (.draw [(11, [10])]) (.d [.rd] (Zl s.scopes) (.i (s.kind = 1) (.d [.rd, .rd] (Z9o
 s.scopes n) (.z Yh9 s.items (.w (.ghost (.nilbox 10 4 true 5)) (.l (Z2b s n) (Z8m s n h ih) [1, 10, 11, 12] [.s (li 0), .o (.arr true 5 []), .o (.arr
 true 1 ((Yi7 n s.scopes).map Yhd))] 0 (.t (.f [2, 3] [.arr true 1 ((Yht (Yi7 n) s).scopes.map Yhd), .arr true 5 ((List.map (Yht (Yi7 n))
 s.items).map Yh9)] (.sv (.agg [vI s.kind, vI s.number, vS s.text, .ref 0, .ref 1]))) .q))))) (.z Yh9 s.items (.w (.ghost (.nilbox 10 4 true 5)) (.l (Z2b s n)
 (Z8m s n h ih) [1, 10, 2, 11] [.s (li 0), .o (.arr true 5 []), .o (.arr true 1 (s.scopes.map Yhd))] 0 (.t (.f [2, 3] [.arr true 1 ((Yht (Yi7
 n) s).scopes.map Yhd), .arr true 5 ((List.map (Yht (Yi7 n)) s.items).map Yh9)] (.sv (.agg [vI s.kind, vI s.number, vS s.text, .ref 0, .ref 1]))) .q))))))) (by
 dsimp only [Yhf, Z1n, Yhl, Z2b]
 have g1 := Yj6 s
 have g2 := @Yxj (Yi7 n) s
 have g3 := @Yy7 s
 with_reducible repeat' (first | apply And.intro | exact zR | exact ih | (intro) | apply Z2 | apply Z8i)
 all_goals ((try simp only [std, inj] at *); with_reducible and_intros)
 all_goals try with_reducible first | apply Z2 | apply Z8i | apply ih
 all_goals try first | exact zw | grind [Yhi, Yhh, Yhe])
theorem Zec (s : YS) : ∀ (n : Int) (h : wY s <= 1000000000 /\ okY s = true /\ 1 <= n /\ n <= 99999), Z1n s n := YS.ind (P := fun s => ∀ (n : Int) (h : wY s <= 1000000000 /\ okY s = true /\ 1 <= n /\ n <= 99999), Z1n s n) (fun s ih n h => Zg8 s n h ih) s
abbrev Z8n (s : YS) (n : Int) : Ct := ⟨203, [], [Yhu s, li n], Yk5 (Yht (Yi3 n) s), .sv (Yjx (Yht (Yi3 n) s) 0)⟩
theorem Zed (s : YS) (n : Int) (h : wY s <= 1000000000)  : Z8n s n := Yhq Tryz.call203 Tryz.func203 (.w (.ghost (.cap 3 1)) (.d [.rd, .rd] (Z1m s n) (.f [3, 4]
 [.arr true 1 ((Yht (Yi3 n) s).scopes.map Yhd), .arr true 5 ((Yht (Yi3 n) s).items.map Yh9)] (.sv (.agg [vI (Yht (Yi3 n) s).kind, vI (Yht (Yi3 n)
 s).number, vS (Yht (Yi3 n) s).text, .ref 0, .ref 1]))))) (by
 dsimp only [Yhf, Z8n]
 with_reducible repeat' (first | apply And.intro | exact zR | (intro) | apply Zeb)
 all_goals ((try simp only [std, inj] at *); with_reducible and_intros)
 all_goals try with_reducible first | apply Zeb
 all_goals try first | exact zw | grind [Yhi, Yhh, Yhe])
abbrev Z6s (s : YS) (n : Int) : Ct := ⟨202, [], [Yhu s, li n], Yk5 (Yht (Yi7 n) s), .sv (Yjx (Yht (Yi7 n) s) 0)⟩
theorem Zee (s : YS) (n : Int) (h : wY s <= 1000000000 /\ okY s = true /\ 1 <= n /\ n <= 99999)  : Z6s s n := Yhq Tryz.call202 Tryz.func202 (.w (.ghost (.cap 3 1)) (.d [.rd,
 .rd] (Z1n s n) (.f [3, 4] [.arr true 1 ((Yht (Yi7 n) s).scopes.map Yhd), .arr true 5 ((Yht (Yi7 n) s).items.map Yh9)] (.sv (.agg [vI (Yht (Yi7
 n) s).kind, vI (Yht (Yi7 n) s).number, vS (Yht (Yi7 n) s).text, .ref 0, .ref 1]))))) (by
 dsimp only [Yhf, Z6s]
 with_reducible repeat' (first | apply And.intro | exact zR | (intro) | apply Zec)
 all_goals ((try simp only [std, inj] at *); with_reducible and_intros)
 all_goals try with_reducible first | apply Zec
 all_goals try first | exact zw | grind [Yhi, Yhh, Yhe])
def cdN (s k : Int) : Int := if nxR s k <= 99999 then 0 else 8
abbrev Z4s (x : YE) (z : Int) (kind : Int) : Ct := ⟨201, stI x z, [.one (.ptr 0 0), li kind], [.box [.ref 1, .ref 2, vI (nxS x.scope kind), vI x.vari, vI x.steps, vI z], .arr true 4 (x.bindings.map Yhc), .arr true 3 (x.macros.map Yhm)], .tup [li (nxt x.scope kind), li (cdN x.scope kind)]⟩
theorem Zbj (x : YE) (z kind : Int) (h : 0 <= x.scope /\ x.scope <= 99999 /\ 1 <= kind /\ kind <= 3)  : Z4s x z kind := Yhq Tryz.call201 Tryz.func201 (.d [.rd, .rd]
 (Z89 x.scope kind) (.i (nxt x.scope kind = 0) (.f [] [.box [.ref 1, .ref 2, vI x.scope, vI x.vari, vI x.steps, vI z], .arr true 4 (x.bindings.map Yhc),
 .arr true 3 (x.macros.map Yhm)] (.tup [li 0, li 8])) (.f [] [.box [.ref 1, .ref 2, vI (nxt x.scope kind), vI x.vari, vI x.steps, vI z], .arr true 4 (List.map
 Yhc x.bindings), .arr true 3 (x.macros.map Yhm)] (.tup [li (nxt x.scope kind), li 0])))) (by
 dsimp only [Yhf, Z4s]
 have g2 := @Ynj x.scope kind
 with_reducible repeat' (first | apply And.intro | exact zR | (intro) | apply Ze4)
 all_goals ((try simp only [std, inj] at *); with_reducible and_intros)
 all_goals try with_reducible first | apply Ze4
 all_goals try first | exact zw | grind [nxt, nxS, cdN, Yhi, Yhh, Yhe])
def hdS (s : YS) : Bool := decide (s.kind = 0) && !decide ((s.items.length : Int) = 0) && decide ((s.items.getD 0 default).kind = 1)
def hdF (x : YE) (s : YS) : Bool := hdS s && decide (rsC x.bindings (s.items.getD 0 default).text (s.items.getD 0 default).scopes = 1)
def hdR (x : YE) (s : YS) : YB := if hdS s = true then rsB x.bindings (s.items.getD 0 default).text (s.items.getD 0 default).scopes else ⟨mkS [], [], 0, 0⟩
def hdM (x : YE) (s : YS) : Int := if hdF x s = true /\ (hdR x s).kind = 4 then (hdR x s).number else -1
abbrev Z7s (x : YE) (z : Int) (s : YS) : Ct := ⟨121, stI x z, [.one (.ptr 0 0), Yhu s], stI x z, .sv (li (hdM x s))⟩
theorem Zd4 (x : YE) (z : Int) (s : YS) (h : x.bindings.length <= 1048577 /\ Yhb wB x.bindings <= 1048577)  : Z7s x z s := Yhq Tryz.call121 Tryz.func121 (.i
 (s.kind ≠ 0) (.y true (.y true (.f [] [.box [.ref 1, .ref 2, vI x.scope, vI x.vari, vI x.steps, vI z], .arr true 4 (x.bindings.map Yhc), .arr true 3 (List.map
 Yhm x.macros)] (.sv (li (-1 : Int)))))) (.z Yh9 s.items (.i ((↑(s.items.map Yh9).length : Int) = 0) (.y true (.f [] [.box [.ref 1, .ref 2, vI x.scope, vI
 x.vari, vI x.steps, vI z], .arr true 4 (x.bindings.map Yhc), .arr true 3 (x.macros.map Yhm)] (.sv (li (-1 : Int))))) (.w (.cells (Yhg (s.items.getD 0
 default))) (.p ((0 : Int) <= 0 /\ (s.items.map Yh9)[0]? = some (Yhg (s.items.getD 0 default))) (.i ((s.items.getD 0 default).kind ≠ 1) (.f [] [.box [.ref 1, .ref
 2, vI x.scope, vI x.vari, vI x.steps, vI z], .arr true 4 (x.bindings.map Yhc), .arr true 3 (x.macros.map Yhm)] (.sv (li (-1 : Int)))) (.w (.draw [(14,
 [12])]) (.w (.cells (Yhg (s.items.getD 0 default))) (.p ((0 : Int) <= 0 /\ (s.items.map Yh9)[0]? = some (Yhg (s.items.getD 0 default))) (.d [.rd, .rd] (Z65
 x.bindings (s.items.getD 0 default)) (.i (rsC x.bindings (s.items.getD 0 default).text (s.items.getD 0 default).scopes ≠ 1) (.y true (.f [] [.box [.ref 1, .ref 2, vI
 x.scope, vI x.vari, vI x.steps, vI z], .arr true 4 (x.bindings.map Yhc), .arr true 3 (x.macros.map Yhm)] (.sv (li (-1 : Int))))) (.i ((rsB x.bindings
 (s.items.getD 0 default).text (s.items.getD 0 default).scopes).kind ≠ 4) (.f [] [.box [.ref 1, .ref 2, vI x.scope, vI x.vari, vI x.steps, vI z], .arr true 4 (List.map
 Yhc x.bindings), .arr true 3 (x.macros.map Yhm)] (.sv (li (-1 : Int)))) (.f [] [.box [.ref 1, .ref 2, vI x.scope, vI x.vari, vI x.steps, vI z], .arr true
 4 (x.bindings.map Yhc), .arr true 3 (x.macros.map Yhm)] (.sv (li (rsB x.bindings (s.items.getD 0 default).text (s.items.getD 0
 default).scopes).number))))))))))))))) (by
 dsimp only [Yhf, Z7s]
 with_reducible repeat' (first | apply And.intro | exact zR | (intro) | apply Za0)
 all_goals ((try simp only [std, inj] at *); with_reducible and_intros)
 all_goals try with_reducible first | apply Za0
 all_goals try first | exact zw | grind [hdM, hdF, hdR, hdS, Yhi, Yhh, Yhe])
abbrev Z8o (L : List YB) (y : YS) : Ct := ⟨197, [], [ll (L.map Yhc), Yhu y], [], .tup [.agg [vS (rsB L y.text y.scopes).text, .top, vI (rsB L y.text y.scopes).kind, vI (rsB L y.text y.scopes).number], li (rsC L y.text y.scopes)]⟩
def Z5r (L : List YB) (y : YS) : Lp Nat := .mk 56 0 (fun x => [(4, .one (.ptr 0 0)), (7, .one (.ptr 1 0)), (37, ll ((cnd L y.text
 y.scopes).map Yhc)), (38, li (↑((cnd L y.text y.scopes).map Yhc).length : Int)), (39, hs x 0)]) (fun x => [.box [vS (ByteArray.mk #[]), .val (.lit (.slice none 0
 0)), vI 0, vI 0], .box (vals (Yhx (Yip (cnd L y.text y.scopes))))]) (fun k => [.s (li (k : Int))]) (fun k => k <= (cnd L y.text y.scopes).length /\ (cnd L y.text
 y.scopes).length <= 9223372036854775807 /\ 0 < (cnd L y.text y.scopes).length /\ Yt7 (cnd L y.text y.scopes) k = true) (fun k => (cnd L y.text y.scopes).length - k) [.mk (amb (cnd L
 y.text y.scopes) = true) (.exit 2) (fun x => [(4, .one (.ptr 0 0)), (7, .one (.ptr 1 0))]) (fun x => [.box [vS (ByteArray.mk #[]), .val (.lit (.slice none 0
 0)), vI 0, vI 0], .box (vals (Yhx (Yip (cnd L y.text y.scopes))))]) [], .mk (amb (cnd L y.text y.scopes) = false) .ret (fun x => [(4, .one (.ptr 0 0)), (5, hs x 1)])
 (fun x => [ho x 0]) [.o (.box [vS (mkS []), .val (.lit (.slice none 0 0)), vI 0, vI 0]), .s (li 2)]]
def Z5s (L : List YB) (y : YS) : Lp Nat := .mk 56 0 (fun x => [(4, .one (.ptr 0 0)), (6, ll ((cnd L y.text y.scopes).map Yhc)), (7, .one (.ptr 1
 0)), (22, ll ((cnd L y.text y.scopes).map Yhc)), (23, li (↑((cnd L y.text y.scopes).map Yhc).length : Int)), (24, hs x 0)]) (fun x => [.box [vS (ByteArray.mk
 #[]), .val (.lit (.slice none 0 0)), vI 0, vI 0], ho x 1]) (fun k => [.s (li (k : Int)), .o (.box (vals (Yhx (List.foldl Ykw ((cnd L y.text y.scopes).getD 0
 default) (List.take k (cnd L y.text y.scopes))))))]) (fun k => k <= (cnd L y.text y.scopes).length /\ (cnd L y.text y.scopes).length <= 9223372036854775807 /\ 0 < (cnd L y.text
 y.scopes).length) (fun k => (cnd L y.text y.scopes).length - k) [.mk True (.exit 0) (fun x => [(4, .one (.ptr 0 0)), (6, ll ((cnd L y.text y.scopes).map Yhc)), (7,
 .one (.ptr 1 0))]) (fun x => [.box [vS (ByteArray.mk #[]), .val (.lit (.slice none 0 0)), vI 0, vI 0], ho x 0]) [.o (.box (vals (Yhx (Yip (cnd L y.text
 y.scopes)))))]]
theorem Zf5 (L : List YB) (y : YS) (h : L.length <= 1048577 /\ Yhb wB L <= 1048577) : Lp.Sem Tryz.prog (Yhp Tryz.f197 1) (Z5r L y) := Yhz (fun k => .i
 ((k : Int) < (↑((cnd L y.text y.scopes).map Yhc).length : Int)) (.x (k : Int) ((cnd L y.text y.scopes).map Yhc) (Yhx ((cnd L y.text y.scopes).getD k
 default)) (.c [.rd, .rd] (Zcx ((cnd L y.text y.scopes).getD k default).scopes (Yip (cnd L y.text y.scopes)).scopes) (.b (!Ykp ((cnd L y.text y.scopes).getD k default).scopes
 (Yip (cnd L y.text y.scopes)).scopes) (.o 1 [0] [.o (.box [vS (ByteArray.mk #[]), .val (.lit (.slice none 0 0)), vI 0, vI 0]), .s (li 2)]) (.r ((k : Int) + 1) (.g
 [0, 1] (k + 1) [.s (li ((k : Int) + 1))]))))) (.o 0 [0, 1] [])) (by
 intro k h; try dsimp only [Yhf, Yhl, Z5r] at h ⊢
 have g1 := @Y14u (cnd L y.text y.scopes) k
 have g2 := @Y10l (cnd L y.text y.scopes) k
 have g3 := @Y15q (cnd L y.text y.scopes) k
 with_reducible repeat' (first | apply And.intro | exact zR | (intro) | apply Z12 | apply Z8)
 all_goals ((try simp only [std, inj] at *); with_reducible and_intros)
 all_goals try with_reducible first | apply Z12 | apply Z8
 all_goals try first | exact zw | grind [Yhi, Yhh, Yhe])
theorem Zf6 (L : List YB) (y : YS) (h : L.length <= 1048577 /\ Yhb wB L <= 1048577) : Lp.Sem Tryz.prog (Yhp Tryz.f197 0) (Z5s L y) := Yhz (fun k => .i
 ((k : Int) < (↑((cnd L y.text y.scopes).map Yhc).length : Int)) (.x (k : Int) ((cnd L y.text y.scopes).map Yhc) (Yhx ((cnd L y.text y.scopes).getD k
 default)) (.z Yhd ((cnd L y.text y.scopes).getD k default).scopes (.z Yhd (List.foldl Ykw ((cnd L y.text y.scopes).getD 0 default) (List.take k (cnd L y.text y.scopes))).scopes
 (.i ((↑((List.foldl Ykw ((cnd L y.text y.scopes).getD 0 default) (List.take k (cnd L y.text y.scopes))).scopes.map Yhd).length : Int) < (↑(((cnd L y.text
 y.scopes).getD k default).scopes.map Yhd).length : Int)) (.r ((k : Int) + 1) (.g [0, 1] (k + 1) [.s (li ((k : Int) + 1)), .o (.box (vals (Yhx ((cnd L y.text y.scopes).getD k
 default))))])) (.r ((k : Int) + 1) (.g [0, 1] (k + 1) [.s (li ((k : Int) + 1)), .o (.box (vals (Yhx (List.foldl Ykw ((cnd L y.text y.scopes).getD 0 default) (List.take k
 (cnd L y.text y.scopes))))))])))))) (.o 0 [0, 1] [.o (.box (vals (Yhx (List.foldl Ykw ((cnd L y.text y.scopes).getD 0 default) (List.take k (cnd L y.text y.scopes))))))]))
 (by
 intro k h; try dsimp only [Yhf, Yhl, Z5s] at h ⊢
 have g1 := @Ynb _ _ _ Ykw ((cnd L y.text y.scopes).getD 0 default) (cnd L y.text y.scopes) k
 have g2 : ∀ a b, Ykw a b = if a.scopes.length < b.scopes.length then b else a := fun _ _ => rfl
 have g3 : (cnd L y.text y.scopes).length <= k -> (cnd L y.text y.scopes).take k = cnd L y.text y.scopes := fun h => List.take_of_length_le h
 have g4 : Yip (cnd L y.text y.scopes) = (cnd L y.text y.scopes).foldl Ykw ((cnd L y.text y.scopes).getD 0 default) := rfl
 with_reducible repeat' (first | apply And.intro | exact zR | (intro) | apply Z12 | apply Z8)
 all_goals ((try simp only [std, inj] at *); with_reducible and_intros)
 all_goals try with_reducible first | apply Z12 | apply Z8
 all_goals try first | exact zw | grind [Yhi, Yhh, Yhe])
theorem Zef (L : List YB) (y : YS) (h : L.length <= 1048577 /\ Yhb wB L <= 1048577)  : Z8o L y := Yhq Tryz.call197 Tryz.func197 (.d [.rd, .rd] (Z6i L y) (.z
 Yhc (cnd L y.text y.scopes) (.i ((↑((cnd L y.text y.scopes).map Yhc).length : Int) = 0) (.w (.ghost (.blank 1 1)) (.f [] [] (.tup [.agg [vS (ByteArray.mk #[]),
 .top, vI 0, vI 0], li 0]))) (.w (.cells (Yhx ((cnd L y.text y.scopes).getD 0 default))) (.p ((0 : Int) <= 0 /\ ((cnd L y.text y.scopes).map Yhc)[0]? = some
 (Yhx ((cnd L y.text y.scopes).getD 0 default))) (.z Yhc (cnd L y.text y.scopes) (.l (Z5s L y) (Zf6 L y h) [1, 2] [.s (li 0), .o (.box (vals (Yhx
 ((cnd L y.text y.scopes).getD 0 default))))] 0 (.t (.z Yhc (cnd L y.text y.scopes) (.l (Z5r L y) (Zf5 L y h) [0, 1] [.s (li 0)] 0 (.t (.d [.rd] (Z3u
 [Yip (cnd L y.text y.scopes)]) (.p ((0 : Int) <= 0 /\ 0 < 1) (.w (.cells (Yhx (Yip (cnd L y.text y.scopes)))) (.p (some (Yhx (Yip (cnd L y.text y.scopes))) = some
 (Yhx (Yip (cnd L y.text y.scopes)))) (.w (.ghost (.blank 0 1)) (.f [] [] (.tup [.agg [vS (Yip (cnd L y.text y.scopes)).text, .top, vI (Yip (cnd L y.text
 y.scopes)).kind, vI (Yip (cnd L y.text y.scopes)).number], li 1]))))))) (.t (.w (.ghost (.blank 0 1)) (.f [] [] (.tup [.agg [vS (mkS []), .top, vI 0, vI 0], li 2]))) .q))))
 .q)))))))) (by
 dsimp only [Yhf, Z8o, Yhl, Z5s, Z5r]
 have g1 : 0 < (cnd L y.text y.scopes).length -> cnd L y.text y.scopes ≠ [] := fun h => List.length_pos_iff.1 h
 have g2 : (cnd L y.text y.scopes).length = 0 -> cnd L y.text y.scopes = [] := fun h => List.length_eq_zero_iff.1 h
 have g3 := @Y13w L y.text y.scopes
 have g4 : rsC L y.text y.scopes = if cnd L y.text y.scopes = [] then 0 else if amb (cnd L y.text y.scopes) = true then 1 else 2 := rfl
 have g5 : rsC L y.text y.scopes = 1 -> rsB L y.text y.scopes = Yip (cnd L y.text y.scopes) := fun h => if_pos h
 have g6 : ¬ rsC L y.text y.scopes = 1 -> rsB L y.text y.scopes = ⟨mkS [], [], 0, 0⟩ := fun h => if_neg h
 have g7 : Yt7 (cnd L y.text y.scopes) 0 = true := rfl
 have g8 : ∀ b : YB, [b].getD 0 default = b := fun b => rfl
 have g9 : Yhb wB [Yip (cnd L y.text y.scopes)] = wB (Yip (cnd L y.text y.scopes)) := rfl
 with_reducible repeat' (first | apply And.intro | exact zR | (intro) | apply Z12 | apply Z8)
 all_goals ((try simp only [std, inj] at *); with_reducible and_intros)
 all_goals try with_reducible first | apply Z12 | apply Z8
 all_goals try first | exact zw | grind [Yhi, Yhh, Yhe])
abbrev Z7t (x : YE) (z : Int) (c : Int) (s : YS) : Ct := ⟨118, stO x z c, [.one (.ptr 0 0), Yhu s], stO x z c, .tup [.agg [vS (hdR x s).text, .top, vI (hdR x s).kind, vI (hdR x s).number], lb (hdF x s)]⟩
theorem Zd5 (x : YE) (z c : Int) (s : YS) (h : x.bindings.length <= 1048577 /\ Yhb wB x.bindings <= 1048577)  : Z7t x z c s := Yhq Tryz.call118 Tryz.func118 (.i
 (s.kind ≠ 0) (.y true (.y true (.w (.ghost (.blank 4 1)) (.f [] [.box [.ref 1, .ref 2, vI x.scope, vI x.vari, vI x.steps, vI z, vI c], .arr true 4 (List.map Yhc
 x.bindings), .arr true 3 (x.macros.map Yhm)] (.tup [.agg [vS (ByteArray.mk #[]), .top, vI 0, vI 0], lb false]))))) (.z Yh9 s.items (.i ((↑(List.map Yh9
 s.items).length : Int) = 0) (.y true (.w (.ghost (.blank 4 1)) (.f [] [.box [.ref 1, .ref 2, vI x.scope, vI x.vari, vI x.steps, vI z, vI c], .arr true 4 (List.map Yhc
 x.bindings), .arr true 3 (x.macros.map Yhm)] (.tup [.agg [vS (ByteArray.mk #[]), .top, vI 0, vI 0], lb false])))) (.w (.cells (Yhg (s.items.getD 0 default)))
 (.p ((0 : Int) <= 0 /\ (s.items.map Yh9)[0]? = some (Yhg (s.items.getD 0 default))) (.i ((s.items.getD 0 default).kind ≠ 1) (.w (.ghost (.blank 4 1)) (.f [] [.box
 [.ref 1, .ref 2, vI x.scope, vI x.vari, vI x.steps, vI z, vI c], .arr true 4 (x.bindings.map Yhc), .arr true 3 (x.macros.map Yhm)] (.tup [.agg [vS
 (ByteArray.mk #[]), .top, vI 0, vI 0], lb false]))) (.w (.draw [(14, [13])]) (.w (.cells (Yhg (s.items.getD 0 default))) (.p ((0 : Int) <= 0 /\ (s.items.map Yh9)[0]?
 = some (Yhg (s.items.getD 0 default))) (.d [.rd, .rd] (Z8o x.bindings (s.items.getD 0 default)) (.f [] [.box [.ref 1, .ref 2, vI x.scope, vI x.vari, vI x.steps, vI
 z, vI c], .arr true 4 (x.bindings.map Yhc), .arr true 3 (x.macros.map Yhm)] (.tup [.agg [vS (rsB x.bindings (s.items.getD 0 default).text (s.items.getD 0
 default).scopes).text, .top, vI (rsB x.bindings (s.items.getD 0 default).text (s.items.getD 0 default).scopes).kind, vI (rsB x.bindings (s.items.getD 0 default).text
 (s.items.getD 0 default).scopes).number], lb (decide (rsC x.bindings (s.items.getD 0 default).text (s.items.getD 0 default).scopes = 1))])))))))))))) (by
 dsimp only [Yhf, Z7t]
 with_reducible repeat' (first | apply And.intro | exact zR | (intro) | apply Zef)
 all_goals ((try simp only [std, inj] at *); with_reducible and_intros)
 all_goals try with_reducible first | apply Zef
 all_goals try first | exact zw | grind [hdF, hdR, hdS, Yhi, Yhh, Yhe])
theorem Y1c5 {x : YE} {s : YS} (h : wY s <= 900000000) (h2 : Yhk s <= 2000) : wY (Yht (Yi3 (scU x)) s) <= 900002000 /\ wY (Ynf x s) <= 1000000000 := by
 have h3 := Y12t (Ytk (scU x)) s
 have h4 := Y12t (Y129 (scI x)) (Yht (Yi3 (scU x)) s)
 have h5 := Y1c4 (Yi3 (scU x)) s
 unfold Ynf; omega
theorem Y15i {s kind : Int} (h0 : 0 <= s) (h : nxR s kind <= 99999) : 1 <= nxt s kind /\ nxt s kind <= 99999 /\ nxt s kind = nxR s kind /\ nxS s kind = nxR s kind := by
 have h1 := @Ynj s kind
 have e1 : nxt s kind = nxR s kind := if_pos h
 have e2 : nxS s kind = nxR s kind := if_pos h
 omega
theorem Y198 {B : List YB} {r : YR} {f : YS} (h : apB B r f = true) : Yi2 (apY B r f) = true := by
 unfold apB at h
 rw [Bool.and_eq_true] at h
 unfold apY; rw [if_pos h.1]
 unfold Yl4; rw [if_pos h.2]
 have h2 := h.2
 simp only [Yne, Bool.and_eq_true] at h2
 exact h2.2
theorem Y1cn {k n : Int} {t : ByteArray} {i : Int} (h : Yoy k n t i = true) : t.size <= 99999 := by
 have e : ∀ u : ByteArray, u.data.toList = [] -> u.size = 0 := fun u hu => by
  have : u.data.toList.length = 0 := by rw [hu]; rfl
  simpa using this
 simp only [Yoy, Bool.or_eq_true, decide_eq_true_eq] at h
 rcases h with (((h | h) | h) | h) | h
 ·have := e t h.2.2; omega
 ·have h2 := h.2.2.1
  unfold Ym3 at h2; simp only [Bool.and_eq_true, decide_eq_true_eq] at h2
  have := h2.1.1.1.2; omega
 ·have := e t h.2.2.2.1; omega
 ·have := e t h.2.2.2.1; omega
 ·have h2 := h.2.2.1
  unfold Yr9 at h2; simp only [Bool.and_eq_true, decide_eq_true_eq] at h2
  have := h2.1; omega
theorem Y1i3 {L : List Int} (h : Yk8 L = true) : L.length <= 99999 := by
 have h1 := (Ywh L).1 h
 have : ∀ (L : List Int) (m : Int), srt L -> (∀ y ∈ L, m < y) -> 0 <= m -> (L.length : Int) + m <= 99999 ∨ L = [] := by
  intro L
  induction L with
  | nil => intro m _ _ _; exact .inr rfl
  | cons x r ih =>
   intro m hs hm h0
   obtain ⟨a1, a2, a3⟩ := hs
   have hx := hm x List.mem_cons_self
   left
   rcases ih x a3 a2 (by omega) with h | h
   ·simp only [List.length_cons]; omega
   ·subst h; simp; omega
 rcases this L 0 h1 (fun y hy => by
  have : ∀ L : List Int, srt L -> ∀ y ∈ L, 0 < y := by
   intro L
   induction L with
   | nil => intro _ y hy; cases hy
   | cons x r ih =>
    intro hs y hy
    rcases List.mem_cons.1 hy with rfl | hy
    ·have := hs.1; omega
    ·exact ih hs.2.2 y hy
  exact this L h1 y hy) (by omega) with h | h
 ·omega
 ·subst h; simp
theorem Y1k4 : ∀ s : YS, okY s = true -> wY s + 1 <= 200000 * Yhk s := by
 refine YS.ind fun s ih h => ?_
 have h0 := Yy7 h
 rw [Ymh, Bool.and_eq_true, List.all_eq_true] at h
 have h1 := Y1i3 h0
 have h2 : ∀ L : List YS, (∀ x ∈ L, wY x + 1 <= 200000 * Yhk x) -> L.length + Yhb wY L <= 200000 * Yhb Yhk L := by
  intro L
  induction L with
  | nil => intro _; simp [Yhb]
  | cons x r ihr =>
   intro hL
   have a := hL x List.mem_cons_self
   have b := ihr fun y hy => hL y (List.mem_cons_of_mem _ hy)
   have c := Yi9 x
   simp only [Yhb, List.length_cons]; omega
 have h3 := h2 s.items fun x hx => ih x hx (h.1 x hx)
 have h4 : s.text.size <= 99999 := by
  have := h.2
  simp only [Ymu, Bool.and_eq_true] at this
  exact Y1cn this.1.1
 rw [Yj6, Yi9]; omega
theorem Yqb {s : YS} (h : Yi2 s = true) : wY s <= 400000000 /\ Yhk s <= 2000 /\ okY s = true := by
 simp only [Yi2, Bool.and_eq_true, decide_eq_true_eq] at h
 have := Y1k4 s h.2
 exact ⟨by omega, by omega, h.2⟩
abbrev ccS (x : YE) : Int := if nxR (nxS x.scope 3) 2 <= 99999 then if nxR x.scope 3 <= 99999 then 0 else cdF 0 8 else cdF (if nxR x.scope 3 <= 99999 then 0 else cdF 0 8) 8
theorem Y1jj (x : YE) : ccS x = if nxR x.scope 3 <= 99999 /\ nxR (nxS x.scope 3) 2 <= 99999 then 0 else 8 := by
 unfold ccS cdF
 by_cases h1 : nxR x.scope 3 <= 99999 <;> by_cases h2 : nxR (nxS x.scope 3) 2 <= 99999 <;> simp [h1, h2]
theorem Y1a1 : zY.kind = 0 /\ zY.number = 0 /\ zY.text = mkS [] /\ zY.scopes = [] /\ zY.items = [] := ⟨rfl, rfl, rfl, rfl, rfl⟩
theorem Y141 {x : YE} {m : Int} {s : YS} (h : x.steps = 0) : Ykj x m s = 7 /\ Ynw x m s = zY := by
 have e : Ykj x m s = 7 := if_pos h
 exact ⟨e, if_neg (by rw [e]; decide)⟩
theorem Y10r {x : YE} {m : Int} {s : YS} (h : ¬ x.steps = 0) (h2 : ¬ (nxR x.scope 3 <= 99999 /\ nxR (nxS x.scope 3) 2 <= 99999)) : Ykj x m s = 8 /\ Ynw x m s = zY := by
 have e : Ykj x m s = 8 := by unfold Ykj; rw [if_neg h, if_neg (show ¬ (nxR x.scope 3 <= 99999 /\ nxR (scA x) 2 <= 99999) from h2)]
 exact ⟨e, if_neg (by rw [e]; decide)⟩
theorem Y146 {x : YE} {m : Int} {s : YS} (h : ¬ x.steps = 0) (h2 : nxR x.scope 3 <= 99999 /\ nxR (nxS x.scope 3) 2 <= 99999) (h3 : apB x.bindings (ruS x m) (Ynf x s) = false) : Ykj x m s = 6 /\ Ynw x m s = zY := by
 have e : Ykj x m s = 6 := by unfold Ykj; rw [if_neg h, if_pos (show nxR x.scope 3 <= 99999 /\ nxR (scA x) 2 <= 99999 from h2), if_neg (by rw [h3]; decide)]
 exact ⟨e, if_neg (by rw [e]; decide)⟩
theorem Y1b7 {x : YE} {m : Int} {s : YS} (h : ¬ x.steps = 0) (h2 : nxR x.scope 3 <= 99999 /\ nxR (nxS x.scope 3) 2 <= 99999) (h3 : apB x.bindings (ruS x m) (Ynf x s) = true) : Ykj x m s = 0 /\ Ynw x m s = Yht (Yi7 (nxt (nxS x.scope 3) 2)) (apY x.bindings (ruS x m) (Ynf x s)) := by
 have e : Ykj x m s = 0 := by unfold Ykj; rw [if_neg h, if_pos (show nxR x.scope 3 <= 99999 /\ nxR (scA x) 2 <= 99999 from h2), if_pos h3]
 exact ⟨e, if_pos e⟩
theorem Y1dk {s k : Int} (h0 : 0 <= s) (h1 : s <= 99999) : 0 <= nxS s k /\ nxS s k <= 99999 := by
 unfold nxS nxR; split <;> omega
theorem Y1dc {s k : Int} (h : ¬ nxR s k <= 99999) : nxS s k = s := if_neg h
theorem Y1g2 (e : Int) : cdF 0 e = e := rfl
abbrev Z7u (x : YE) (z : Int) (m : Int) (s : YS) : Ct := ⟨119, stO x z 0, [.one (.ptr 0 0), li m, Yhu s], [.box [.ref 1, .ref 2, vI (if x.steps = 0 then x.scope else nxS (scA x) 2), vI x.vari, vI (if x.steps = 0 then 0 else x.steps - 1), vI z, vI (Ykj x m s)], .arr true 4 (x.bindings.map Yhc), .arr true 3 (x.macros.map Yhm), .arr true 1 ((Ynw x m s).scopes.map Yhd), .arr true 5 ((Ynw x m s).items.map Yh9)], .sv (Yjx (Ynw x m s) 3)⟩
theorem Zd6 (x : YE) (z m : Int) (s : YS) (h : wX x <= 1048576 /\ 0 <= x.scope /\ x.scope <= 99999 /\ 0 <= x.steps /\ x.steps <= 200 /\ wY s <= 900000000 /\ Yhk s <= 2000 /\ 0 <=
 m /\ m < x.macros.length) (hr : Yko (ruS x m) = true)  : Z7u x z m s := Yhq Tryz.call119 Tryz.func119 (let v10 := (nxS x.scope 3); let v9 := (if nxR x.scope (3 : Int) <=
 99999 then 0 else cdF 0 8); let v1 := (if nxR v10 (2 : Int) <= 99999 then if nxR x.scope (3 : Int) <= 99999 then 0 else cdF 0 8 else cdF v9 8); let v7 := (x.macros.getD m.toNat
 default); let v6 := (Yht (Yi7 (nxt v10 2)) (Yht (Yi3 (nxt x.scope 3)) s)); let v2 := (Yht (Yi7 (nxt v10 2)) (apY x.bindings v7 v6)); let v3 := (YE.mk x.bindings
 x.macros (nxS v10 2) x.vari (x.steps - 1)); let v4 := (.sv (.agg [vI 0, vI 0, vS (ByteArray.mk #[]), .ref 3, .ref 4])); let v5 := (x.macros.map Yhm); let v8 :=
 [.ref 1, .ref 2, vI (nxS v10 2), vI x.vari, vI (x.steps - 1), vI z, vI v1]; .i (x.steps = 0) (.c [.ptr, .rd] (Zam x z 0 7) (.w (.ghost (.nilbox 4 3 true 1)) (.w (.ghost
 (.nilbox 4 4 true 5)) (.f [5, 6] [.box [.ref 1, .ref 2, vI x.scope, vI x.vari, vI x.steps, vI z, vI (cdF 0 7)], .arr true 4 (x.bindings.map Yhc), .arr true 3
 v5, .arr true 1 [], .arr true 5 []] v4)))) (.r (x.steps - 1) (.d [.ptr, .rd] (Z5f (YE.mk x.bindings x.macros x.scope x.vari (x.steps - 1)) z 0 3) (.d [.ptr, .rd]
 (Z5f (YE.mk x.bindings x.macros v10 x.vari (x.steps - 1)) z v9 2) (.i (v1 ≠ 0) (.w (.ghost (.nilbox 4 3 true 1)) (.w (.ghost (.nilbox 4 4 true 5)) (.f [5, 6] [.box
 v8, .arr true 4 (x.bindings.map Yhc), .arr true 3 v5, .arr true 1 [], .arr true 5 []] v4))) (.w (.draw [(23, [29])]) (.p (0 <= m /\ m.toNat < v5.length) (.w
 (.cells (Yix v7)) (.p (v5[m.toNat]? = some (Yix v7)) (.d [.rd, .rd, .rd] (Z1l s (nxt x.scope 3)) (.d [.rd, .rd, .rd] (Z19 (Yht (Yi3 (nxt x.scope 3)) s) (nxt
 v10 2)) (.d [.rd, .rd, .rd] (Z9l x.bindings v7 v6) (.b (!apB x.bindings v7 v6) (.c [.ptr, .rd] (Zam v3 z v1 6) (.w (.ghost (.nilbox 4 3 true 1)) (.w (.ghost (.nilbox 4 4
 true 5)) (.f [30, 31] [.box [.ref 1, .ref 2, vI v3.scope, vI v3.vari, vI v3.steps, vI z, vI (cdF v1 6)], .arr true 4 (v3.bindings.map Yhc), .arr true 3
 (v3.macros.map Yhm), .arr true 1 [], .arr true 5 []] v4)))) (.d [.rd, .rd, .rd] (Z19 (apY x.bindings v7 v6) (nxt v10 2)) (.f [30, 31] [.box v8, .arr true 4
 (x.bindings.map Yhc), .arr true 3 v5, .arr true 1 (v2.scopes.map Yhd), .arr true 5 (v2.items.map Yh9)] (.sv (.agg [vI v2.kind, vI v2.number, vS
 v2.text, .ref 3, .ref 4]))))))))))))))))) (by
 dsimp only [Yhf, Z7u]
 have g1 := @Y1c5 x s h.2.2.2.2.2.1 h.2.2.2.2.2.2.1
 have g2 := @Y15i x.scope 3 h.2.1
 have g3 := @Ynj x.scope 3
 have g4 := @Ynj (scA x) 2
 have g5 : scU x = nxt x.scope 3 /\ scA x = nxS x.scope 3 /\ scI x = nxt (scA x) 2 /\ Ynf x s = Yht (Yi7 (scI x)) (Yht (Yi3 (scU x)) s) /\ ruS x m = x.macros.getD m.toNat default := ⟨rfl, rfl, rfl, rfl, rfl⟩
 have g6 := Yli x
 have g7 := @Yi4 _ wR x.macros (x.macros.getD m.toNat default)
 have g8 := @Y198 x.bindings (ruS x m) (Ynf x s)
 have g9 := @Yqb (apY x.bindings (ruS x m) (Ynf x s))
 have q6 := Y1jj x
 have q1 := @Y141 x m s
 have q7 := @Y1dk x.scope 3
 have q8 := @Y1dc x.scope 3
 have q2 := @Y10r x m s
 have q3 := @Y146 x m s
 have q4 := @Y1b7 x m s
 have qz := Y1a1
 have q5 : Ynf x s = Yht (Yi7 (nxt (nxS x.scope 3) 2)) (Yht (Yi3 (nxt x.scope 3)) s) /\ ruS x m = x.macros.getD m.toNat default /\ scA x = nxS x.scope 3 := ⟨rfl, rfl, rfl⟩
 with_reducible repeat' (first | apply And.intro | exact zR | (intro) | apply Zcu | apply Ze9 | apply Zea | apply Zg0)
 all_goals ((try simp only [std, inj] at *); with_reducible and_intros)
 all_goals try with_reducible first | apply Zcu | apply Ze9 | apply Zea | apply Zg0
 all_goals try first | exact zw | grind [Y1g2, Yhj, Yhi, Yhh, Yhe])
abbrev Z7v (x : YE) (z : Int) (m : Int) (s : YS) : Ct := ⟨122, stI x z, [.one (.ptr 0 0), Yhu s, li m], [.box [.ref 1, .ref 2, vI (if x.steps = 0 then x.scope else if nxR x.scope 3 <= 99999 then nxS (scA x) 2 else x.scope), vI x.vari, vI (if x.steps = 0 then 0 else x.steps - 1), vI z], .arr true 4 (x.bindings.map Yhc), .arr true 3 (x.macros.map Yhm), .arr true 1 ((Ynw x m s).scopes.map Yhd), .arr true 5 ((Ynw x m s).items.map Yh9)], .tup [Yjx (Ynw x m s) 3, li (Ykj x m s)]⟩
theorem Zd7 (x : YE) (z m : Int) (s : YS) (h : wX x <= 1048576 /\ 0 <= x.scope /\ x.scope <= 99999 /\ 0 <= x.steps /\ x.steps <= 200 /\ wY s <= 900000000 /\ Yi2 s = true /\ 0 <=
 m /\ m < x.macros.length) (hr : Yko (ruS x m) = true)  : Z7v x z m s := Yhq Tryz.call122 Tryz.func122 (.i (x.steps = 0) (.w (.ghost (.nilbox 4 3 true 1)) (.w (.ghost
 (.nilbox 4 4 true 5)) (.f [5, 6] [.box [.ref 1, .ref 2, vI x.scope, vI x.vari, vI x.steps, vI z], .arr true 4 (x.bindings.map Yhc), .arr true 3 (List.map
 Yhm x.macros), .arr true 1 [], .arr true 5 []] (.tup [.agg [vI 0, vI 0, vS (ByteArray.mk #[]), .ref 3, .ref 4], li 7])))) (.r (x.steps - 1) (.d [.ptr, .rd]
 (Z4s (YE.mk x.bindings x.macros x.scope x.vari (x.steps - 1)) z 3) (.i (cdN x.scope (3 : Int) ≠ 0) (.w (.ghost (.nilbox 4 3 true 1)) (.w (.ghost (.nilbox 4 4 true
 5)) (.f [5, 6] [.box [.ref 1, .ref 2, vI (nxS x.scope 3), vI x.vari, vI (x.steps - 1), vI z], .arr true 4 (x.bindings.map Yhc), .arr true 3 (List.map Yhm
 x.macros), .arr true 1 [], .arr true 5 []] (.tup [.agg [vI 0, vI 0, vS (ByteArray.mk #[]), .ref 3, .ref 4], li (cdN x.scope 3)])))) (.d [.ptr, .rd] (Z4s
 (YE.mk x.bindings x.macros (nxS x.scope 3) x.vari (x.steps - 1)) z 2) (.i (cdN (nxS x.scope 3) (2 : Int) ≠ 0) (.w (.ghost (.nilbox 4 3 true 1)) (.w (.ghost (.nilbox 4 4 true
 5)) (.f [5, 6] [.box [.ref 1, .ref 2, vI (nxS (nxS x.scope 3) 2), vI x.vari, vI (x.steps - 1), vI z], .arr true 4 (x.bindings.map Yhc), .arr true 3 (List.map
 Yhm x.macros), .arr true 1 [], .arr true 5 []] (.tup [.agg [vI 0, vI 0, vS (ByteArray.mk #[]), .ref 3, .ref 4], li (cdN (nxS x.scope 3) 2)])))) (.w (.draw [(23,
 [29])]) (.p (0 <= m /\ m.toNat < (x.macros.map Yhm).length) (.w (.cells (Yix (x.macros.getD m.toNat default))) (.p ((x.macros.map Yhm)[m.toNat]? = some (Yix
 (x.macros.getD m.toNat default))) (.d [.rd, .rd] (Z8n s (nxt x.scope 3)) (.d [.rd, .rd] (Z6s (Yht (Yi3 (nxt x.scope 3)) s) (nxt (nxS x.scope 3) 2)) (.d [.rd, .rd,
 .rd] (Z9m x.bindings (x.macros.getD m.toNat default) (Yht (Yi7 (nxt (nxS x.scope 3) 2)) (Yht (Yi3 (nxt x.scope 3)) s))) (.b (!apB x.bindings (x.macros.getD m.toNat
 default) (Yht (Yi7 (nxt (nxS x.scope 3) 2)) (Yht (Yi3 (nxt x.scope 3)) s))) (.w (.ghost (.nilbox 4 3 true 1)) (.w (.ghost (.nilbox 4 4 true 5)) (.f [30, 31] [.box [.ref 1,
 .ref 2, vI (nxS (nxS x.scope 3) 2), vI x.vari, vI (x.steps - 1), vI z], .arr true 4 (x.bindings.map Yhc), .arr true 3 (x.macros.map Yhm), .arr true 1 [],
 .arr true 5 []] (.tup [.agg [vI 0, vI 0, vS (ByteArray.mk #[]), .ref 3, .ref 4], li 6])))) (.d [.rd, .rd] (Z6s (apY x.bindings (x.macros.getD m.toNat default)
 (Yht (Yi7 (nxt (nxS x.scope 3) 2)) (Yht (Yi3 (nxt x.scope 3)) s))) (nxt (nxS x.scope 3) 2)) (.f [30, 31] [.box [.ref 1, .ref 2, vI (nxS (nxS x.scope 3) 2), vI x.vari, vI
 (x.steps - 1), vI z], .arr true 4 (x.bindings.map Yhc), .arr true 3 (x.macros.map Yhm), .arr true 1 ((Yht (Yi7 (nxt (nxS x.scope 3) 2))
 (apY x.bindings (x.macros.getD m.toNat default) (Yht (Yi7 (nxt (nxS x.scope 3) 2)) (Yht (Yi3 (nxt x.scope 3)) s)))).scopes.map Yhd), .arr true 5 ((Yht (Yi7 (nxt
 (nxS x.scope 3) 2)) (apY x.bindings (x.macros.getD m.toNat default) (Yht (Yi7 (nxt (nxS x.scope 3) 2)) (Yht (Yi3 (nxt x.scope 3)) s)))).items.map Yh9)] (.tup [.agg [vI (Yht (Yi7
 (nxt (nxS x.scope 3) 2)) (apY x.bindings (x.macros.getD m.toNat default) (Yht (Yi7 (nxt (nxS x.scope 3) 2)) (Yht (Yi3 (nxt x.scope 3)) s)))).kind, vI (Yht (Yi7 (nxt (nxS
 x.scope 3) 2)) (apY x.bindings (x.macros.getD m.toNat default) (Yht (Yi7 (nxt (nxS x.scope 3) 2)) (Yht (Yi3 (nxt x.scope 3)) s)))).number, vS (Yht (Yi7 (nxt (nxS x.scope 3)
 2)) (apY x.bindings (x.macros.getD m.toNat default) (Yht (Yi7 (nxt (nxS x.scope 3) 2)) (Yht (Yi3 (nxt x.scope 3)) s)))).text, .ref 3, .ref 4], li 0]))))))))))))))))) (by
 dsimp only [Yhf, Z7v]
 have g0 := @Yqb s h.2.2.2.2.2.2.1
 have g1 := @Y1c5 x s h.2.2.2.2.2.1
 have g2 := @Y15i x.scope 3 h.2.1
 have g10 := @Y15i (scA x) 2
 have g3 := @Ynj x.scope 3
 have g4 := @Ynj (scA x) 2
 have g5 : scU x = nxt x.scope 3 /\ scA x = nxS x.scope 3 /\ scI x = nxt (scA x) 2 /\ Ynf x s = Yht (Yi7 (scI x)) (Yht (Yi3 (scU x)) s) /\ ruS x m = x.macros.getD m.toNat default := ⟨rfl, rfl, rfl, rfl, rfl⟩
 have g6 := Yli x
 have g7 := @Yi4 _ wR x.macros (x.macros.getD m.toNat default)
 have g8 := @Y198 x.bindings (ruS x m) (Ynf x s)
 have g9 := @Yqb (apY x.bindings (ruS x m) (Ynf x s))
 have g11 : 1 <= scU x -> scU x <= 99999 -> okY (Yht (Yi3 (scU x)) s) = true := fun a b => Y1hv (Y1kc ⟨a, b⟩) s g0.2.2
 have c1 : cdN x.scope 3 = if nxR x.scope 3 <= 99999 then 0 else 8 := rfl
 have c2 : cdN (nxS x.scope 3) 2 = if nxR (nxS x.scope 3) 2 <= 99999 then 0 else 8 := rfl
 have q1 := @Y141 x m s
 have q7 := @Y1dk x.scope 3
 have q8 := @Y1dc x.scope 3
 have q2 := @Y10r x m s
 have q3 := @Y146 x m s
 have q4 := @Y1b7 x m s
 have qz := Y1a1
 have q5 : Ynf x s = Yht (Yi7 (nxt (nxS x.scope 3) 2)) (Yht (Yi3 (nxt x.scope 3)) s) /\ ruS x m = x.macros.getD m.toNat default /\ scA x = nxS x.scope 3 := ⟨rfl, rfl, rfl⟩
 with_reducible repeat' (first | apply And.intro | exact zR | (intro) | apply Zbj | apply Zed | apply Zee | apply Zg2)
 all_goals ((try simp only [std, inj] at *); with_reducible and_intros)
 all_goals try with_reducible first | apply Zbj | apply Zed | apply Zee | apply Zg2
 all_goals try first | exact zw | grind [Y1g2, Yhj, Yhi, Yhh, Yhe])
theorem Y1h3 {r : List Cell} {k : Nat} (h : k < 1) : [r][k]? = some r := by
 obtain rfl : k = 0 := by omega
 rfl
def xsB (x : YE) (s : YS) : Bool := Ym6 x && Yi2 s && blw x.scope s
def xsE (x : YE) (s : YS) : Int := if xsB x s = true /\ 0 <= hdM x s then Ykj x (hdM x s) s else 1
def xsY (x : YE) (s : YS) : YS := if xsE x s = 0 then Ynw x (hdM x s) s else zY
def xsX (x : YE) (s : YS) : YE := if xsE x s = 0 then ⟨x.bindings, x.macros, nxS (scA x) 2, x.vari, x.steps - 1⟩ else x
theorem Y1bj {x : YE} {s : YS} (h : xsB x s = true) (h2 : 0 <= hdM x s) : hdM x s < x.macros.length /\ Yko (ruS x (hdM x s)) = true := by
 simp only [xsB, Ym6, Bool.and_eq_true, List.all_eq_true] at h
 have hb := h.1.1.2
 have hm := h.1.1.1.2
 unfold hdM at h2
 split at h2
 ·rename_i hc
  have e : hdM x s = (hdR x s).number := if_pos hc
  have hF := hc.1
  simp only [hdF, Bool.and_eq_true, decide_eq_true_eq] at hF
  have e2 : hdR x s = Yip (cnd x.bindings (s.items.getD 0 default).text (s.items.getD 0 default).scopes) := by
   unfold hdR; rw [if_pos hF.1]; exact if_pos hF.2
  have hne : cnd x.bindings (s.items.getD 0 default).text (s.items.getD 0 default).scopes ≠ [] := by
   intro he
   have := hF.2
   unfold rsC at this; rw [if_pos he] at this; omega
  have hmem : hdR x s ∈ x.bindings := by
   rw [e2]; exact (List.mem_filter.1 (Yww hne)).1
  have h3 := hb _ hmem
  have hk := hc.2
  simp only [Yo0, hk, Bool.and_eq_true, Bool.not_eq_true', Bool.and_eq_false_iff, decide_eq_false_iff_not] at h3
  have hlt : (hdR x s).number < x.macros.length := by
   rcases h3.2 with h4 | h4
   ·exact absurd trivial h4
   ·omega
  rw [e]
  refine ⟨hlt, ?_⟩
  have := hm _ (Yhj (L := x.macros) (k := (hdR x s).number.toNat) (by omega))
  simp only [ruX, Bool.and_eq_true] at this
  exact this.1
 ·omega
theorem Y1he {L : List YB} (h : Yrw L = true) {b : YB} (hb : b ∈ L) : 0 <= b.number := by
 simp only [Yrw, Bool.and_eq_true] at h
 obtain ⟨k, hk, e⟩ := List.mem_iff_getElem.1 hb
 have h1 := Yqk L L.length (k + 1) hk h.1
 simp only [Ykb, Bool.and_eq_true] at h1
 have h2 := h1.2.1
 have e2 : L.getD k default = b := by simp [hk, e]
 rw [e2] at h2
 simp only [Yns, Bool.and_eq_true, decide_eq_true_eq] at h2
 exact h2.2.1
theorem Y1ha {x : YE} {s : YS} (hF : hdF x s = true) : hdR x s ∈ x.bindings := by
 simp only [hdF, Bool.and_eq_true, decide_eq_true_eq] at hF
 have e2 : hdR x s = Yip (cnd x.bindings (s.items.getD 0 default).text (s.items.getD 0 default).scopes) := by
  unfold hdR; rw [if_pos hF.1]; exact if_pos hF.2
 have hne : cnd x.bindings (s.items.getD 0 default).text (s.items.getD 0 default).scopes ≠ [] := by
  intro he
  have := hF.2
  unfold rsC at this; rw [if_pos he] at this; omega
 rw [e2]; exact (List.mem_filter.1 (Yww hne)).1
theorem Y1b1 {x : YE} {s : YS} (h : ¬ (xsB x s = true /\ 0 <= hdM x s)) : xsE x s = 1 /\ xsY x s = zY /\ xsX x s = x := by
 have e : xsE x s = 1 := if_neg h
 have e2 : ¬ xsE x s = 0 := by rw [e]; decide
 exact ⟨e, if_neg e2, if_neg e2⟩
theorem Y1g5 {x : YE} {s : YS} (h : xsB x s = true) (h2 : 0 <= hdM x s) : xsE x s = Ykj x (hdM x s) s /\ (Ykj x (hdM x s) s = 0 -> xsY x s = Ynw x (hdM x s) s /\ xsX x s = ⟨x.bindings, x.macros, nxS (scA x) 2, x.vari, x.steps - 1⟩) /\ (¬ Ykj x (hdM x s) s = 0 -> xsY x s = zY /\ xsX x s = x) := by
 have e : xsE x s = Ykj x (hdM x s) s := if_pos ⟨h, h2⟩
 refine ⟨e, fun h3 => ?_, fun h3 => ?_⟩
 ·have e2 : xsE x s = 0 := e.trans h3
  exact ⟨if_pos e2, if_pos e2⟩
 ·have e2 : ¬ xsE x s = 0 := fun h4 => h3 (e.symm.trans h4)
  exact ⟨if_neg e2, if_neg e2⟩
theorem Y1l7 {x : YE} {s : YS} (h : Ym6 x = false ∨ Yi2 s = false ∨ blw x.scope s = false) : xsB x s = false := by
 unfold xsB; rcases h with h | h | h <;> simp [h]
theorem Y1li {x : YE} {s : YS} (h : hdF x s = false ∨ ¬ (hdR x s).kind = 4) : hdM x s = -1 := by
 unfold hdM; rw [if_neg]; rcases h with h | h <;> simp [h]
theorem Y1ls {x : YE} {s : YS} (h1 : Ym6 x = true) (h2 : Yi2 s = true) (h3 : blw x.scope s = true) (hF : hdF x s = true) (hk : (hdR x s).kind = 4) : xsB x s = true /\ hdM x s = (hdR x s).number /\ 0 <= (hdR x s).number /\ (hdR x s).number < x.macros.length /\ Yko (ruS x (hdR x s).number) = true := by
 have hB : xsB x s = true := by unfold xsB; rw [h1, h2, h3]; rfl
 have hM : hdM x s = (hdR x s).number := if_pos ⟨hF, hk⟩
 have hn : 0 <= (hdR x s).number := by
  simp only [Ym6, Bool.and_eq_true] at h1
  exact Y1he h1.1.1.1.1.1.1 (Y1ha hF)
 have h4 := Y1bj hB (by omega)
 rw [hM] at h4
 exact ⟨hB, hM, hn, h4.1, h4.2⟩
theorem Y14y {x : YE} {m : Int} {s : YS} (h : Ykj x m s = 0) : ¬ x.steps = 0 /\ nxR x.scope 3 <= 99999 := by
 unfold Ykj at h
 split at h
 ·omega
 ·rename_i h1
  split at h
  ·rename_i h2; exact ⟨h1, h2.1⟩
  ·omega
abbrev Z9p (x : YE) (s : YS) : Ct := ⟨120, [], [Yk1 x, ll [[cI s.kind, cI s.number, cS s.text, .list (s.scopes.map Yhd), .list (s.items.map Yh9)]]], [], .sv (lb (xsB x s))⟩
def Z6t (x : YE) (s : YS) : Lp Nat := .mk 27 0 (fun x => [(2, .one (.ptr 0 0)), (10, ll [Yhg s]), (11, li 1), (12, hs x 0)]) (fun x_1 => [.box (vals
 (Yis x))]) (fun k => [.s (li (k : Int))]) (fun k => k <= 1 /\ Ym6 x = true /\ (k = 0 ∨ (Yi2 s && blw x.scope s) = true)) (fun k => 1 - k) [.mk (xsB x s = true) (.exit 0)
 (fun x => []) (fun x => []) [], .mk (xsB x s = false) .ret (fun x => [(4, hs x 0)]) (fun x => []) [.s (lb false)]]
theorem Zg9 (x : YE) (s : YS) (h : wX x <= 1048576) : Lp.Sem Tryz.prog (Yhp Tryz.f120 0) (Z6t x s) := Yhz (fun k => .i ((k : Int) < 1) (.x (k : Int)
 [Yhg s] (Yhg s) (.c [.rd] (Z1c s) (.b (!Yi2 s) (.y true (.o 1 [] [.s (lb false)])) (.c [.rd, .rd] (Z42 s x.scope) (.b (!blw x.scope s) (.o 1 [] [.s (lb
 false)]) (.r ((k : Int) + 1) (.g [0] (k + 1) [.s (li ((k : Int) + 1))]))))))) (.o 0 [] [])) (by
 intro k h; try dsimp only [Yhf, Yhl, Z6t] at h ⊢
 with_reducible repeat' (first | apply And.intro | exact zR | (intro) | apply Z7l | apply Z42)
 all_goals ((try simp only [std, inj] at *); with_reducible and_intros)
 all_goals try with_reducible first | apply Z7l | apply Z42
 all_goals try first | exact zw | grind [xsB, Yhi, Yhh, Yhe]
 all_goals (try (exact Y1h3 (by omega))))
theorem Zga (x : YE) (s : YS) (h : wX x <= 1048576)  : Z9p x s := Yhq Tryz.call120 Tryz.func120 (.d [.rd] (Z7k x) (.b (!Ym6 x) (.s (lb false)) (.h (1 <=
 9223372036854775807) (.l (Z6t x s) (Zg9 x s h) [0] [.s (li 0)] 0 (.t (.s (lb true)) (.t (.s (lb false)) .q)))))) (by
 dsimp only [Yhf, Z9p, Yhl, Z6t]
 with_reducible repeat' (first | apply And.intro | exact zR | (intro) | apply Z7l | apply Z42)
 all_goals ((try simp only [std, inj] at *); with_reducible and_intros)
 all_goals try with_reducible first | apply Z7l | apply Z42
 all_goals try first | exact zw | grind [xsB, Yhi, Yhh, Yhe])
theorem Y1am (x : YE) (s : YS) : wY (xsY x s) <= 400002000 := by
 unfold xsY Ynw
 split
 ·rename_i h
  split
  ·rename_i h2
   unfold xsE at h
   split at h
   ·unfold Ykj at h2
    split at h2
    ·omega
    ·split at h2
     ·split at h2
      ·rename_i ha
       have h3 := Yqb (Y198 ha)
       have h4 := Y12t (Y129 (scI x)) (apY x.bindings (ruS x (hdM x s)) (Ynf x s))
       omega
      ·omega
     ·omega
   ·omega
  ·have : wY zY = 0 := rfl
   omega
 ·have : wY zY = 0 := rfl
  omega
theorem Y1jh (x : YE) (s : YS) : (xsX x s).bindings = x.bindings /\ (xsX x s).macros = x.macros := by
 unfold xsX; split <;> exact ⟨rfl, rfl⟩
def trQ : Nat -> YE -> YS -> List YS
 | 0, _, _ => []
 | n + 1, x, s => if xsE x s = 0 then xsY x s :: trQ n (xsX x s) (xsY x s) else []
def trO (x : YE) (s : YS) : List YS := trQ 300 x s
theorem Yre {x : YE} {s : YS} (h : xsE x s = 0) : 1 <= x.steps /\ x.steps <= 200 /\ (xsX x s).steps = x.steps - 1 := by
 have e : (xsX x s).steps = x.steps - 1 := by unfold xsX; rw [if_pos h]
 refine ⟨?_, ?_, e⟩ <;>
 ·unfold xsE at h
  split at h
  ·rename_i hc
   have hx := hc.1
   simp only [xsB, Bool.and_eq_true] at hx
   have h1 := Yrq hx.1.1
   unfold Ykj at h
   split at h
   ·omega
   ·omega
  ·omega
theorem Y151 : ∀ (n : Nat) (x : YE) (s : YS), x.steps.toNat < n -> trQ (n + 1) x s = trQ n x s
 | 0, _, _, h => by omega
 | n + 1, x, s, h => by
  show (if xsE x s = 0 then xsY x s :: trQ (n + 1) (xsX x s) (xsY x s) else []) = if xsE x s = 0 then xsY x s :: trQ n (xsX x s) (xsY x s) else []
  by_cases e : xsE x s = 0
  ·have h2 := Yre e
   rw [if_pos e, if_pos e, Y151 n _ _ (by omega)]
  ·rw [if_neg e, if_neg e]
theorem Y1c1 {x : YE} {s : YS} (e : xsE x s = 0) : trO x s = xsY x s :: trO (xsX x s) (xsY x s) := by
 have h2 := Yre e
 have h3 := Y151 299 (xsX x s) (xsY x s) (by omega)
 have h4 : trO x s = xsY x s :: trQ 299 (xsX x s) (xsY x s) := if_pos e
 rw [h4, <- h3]; rfl
theorem Y1dx {x : YE} {s : YS} (e : ¬ xsE x s = 0) : trO x s = [] := if_neg e
theorem Y1ga : ∀ (n : Nat) (x : YE) (s : YS), Yhb wY (trQ n x s) <= 400002000 * n /\ (trQ n x s).length <= n
 | 0, _, _ => by simp [trQ, Yhb]
 | n + 1, x, s => by
  have ih := Y1ga n (xsX x s) (xsY x s)
  have h2 := Y1am x s
  simp only [trQ]
  split
  ·simp only [Yhb, List.length_cons]; omega
  ·simp [Yhb]
theorem Y19w (x : YE) (s : YS) : Yhb wY (trO x s) <= 120000600000 /\ (trO x s).length <= 300 := by
 have h := Y1ga 300 x s
 unfold trO; omega
theorem Y1c2 (x : YE) (s : YS) : wX (xsX x s) = wX x := by
 have h := Y1jh x s
 rw [Yli, Yli x, h.1, h.2]
set_option maxHeartbeats 4000000
theorem Y1dj (x : YE) : vals (Yis x) = [vL (x.bindings.map Yhc), vL (x.macros.map Yhm), vI x.scope, vI x.vari, vI x.steps] := rfl
theorem Y1cb (s : YS) : vals (Yhg s) = [vI s.kind, vI s.number, vS s.text, vL (s.scopes.map Yhd), vL (s.items.map Yh9)] := rfl
abbrev Z8p (x : YE) (s : YS) : Ct := ⟨51, [], [Yk1 x, Yhu s], [], .tup [.agg [vI (xsY x s).kind, vI (xsY x s).number, vS (xsY x s).text, vL ((xsY x s).scopes.map Yhd), vL ((xsY x s).items.map Yh9)], .agg [vL ((xsX x s).bindings.map Yhc), vL ((xsX x s).macros.map Yhm), vI (xsX x s).scope, vI (xsX x s).vari, vI (xsX x s).steps], li (xsE x s)]⟩
theorem Z76 (x : YE) (s : YS) (h : wX x <= 1048576 /\ wY s <= 900000000)  : Z8p x s := Yhq Tryz.call51 Tryz.func51 (.d [.rd] (Z7j x) (.b (!Ym6 x) (.y true
 (.y true (.d [.rd] (Zu x) (.w (.ghost (.nilbox 2 3 true 1)) (.w (.ghost (.nilbox 2 4 true 1)) (.w (.ghost (.lock 6)) (.w (.ghost (.lock 7)) (.w (.ghost (.lock 4)) (.w
 (.ghost (.lock 5)) (.f [] [] (.tup [.agg [vI 0, vI 0, vS (ByteArray.mk #[]), vL [], vL []], .agg (vals (Yis x)), li 1]))))))))))) (.c [.rd] (Z1t s) (.b (!Yi2
 s) (.y true (.d [.rd] (Zu x) (.w (.ghost (.nilbox 2 3 true 1)) (.w (.ghost (.nilbox 2 4 true 1)) (.w (.ghost (.lock 6)) (.w (.ghost (.lock 7)) (.w (.ghost (.lock 4)) (.w
 (.ghost (.lock 5)) (.f [] [] (.tup [.agg [vI 0, vI 0, vS (ByteArray.mk #[]), vL [], vL []], .agg (vals (Yis x)), li 1])))))))))) (.c [.rd, .rd] (Zcp s x.scope)
 (.b (!blw x.scope s) (.d [.rd] (Zu x) (.w (.ghost (.nilbox 2 3 true 1)) (.w (.ghost (.nilbox 2 4 true 1)) (.w (.ghost (.lock 6)) (.w (.ghost (.lock 7)) (.w (.ghost (.lock
 4)) (.w (.ghost (.lock 5)) (.f [] [] (.tup [.agg [vI 0, vI 0, vS (ByteArray.mk #[]), vL [], vL []], .agg (vals (Yis x)), li 1]))))))))) (.d [.rd] (Zu x) (.d
 [.ptr, .rd] (Z7t x 0 0 s) (.b (!hdF x s) (.y true (.d [.rd] (Zu x) (.w (.ghost (.nilbox 2 3 true 1)) (.w (.ghost (.nilbox 2 4 true 1)) (.w (.ghost (.lock 10)) (.w
 (.ghost (.lock 11)) (.w (.ghost (.lock 8)) (.w (.ghost (.lock 9)) (.f [] [] (.tup [.agg [vI 0, vI 0, vS (ByteArray.mk #[]), vL [], vL []], .agg (vals (Yis x)), li
 1])))))))))) (.i ((hdR x s).kind ≠ 4) (.d [.rd] (Zu x) (.w (.ghost (.nilbox 2 3 true 1)) (.w (.ghost (.nilbox 2 4 true 1)) (.w (.ghost (.lock 10)) (.w (.ghost (.lock 11))
 (.w (.ghost (.lock 8)) (.w (.ghost (.lock 9)) (.f [] [] (.tup [.agg [vI 0, vI 0, vS (ByteArray.mk #[]), vL [], vL []], .agg (vals (Yis x)), li 1]))))))))) (.d [.ptr,
 .rd, .rd] (Z7u x 0 (hdR x s).number s) (.i (Ykj x (hdR x s).number s ≠ 0) (.w (.draw [(7, [2]), (8, [3])]) (.d [.rd] (Zu x) (.w (.ghost (.nilbox 2 3 true 1)) (.w
 (.ghost (.nilbox 2 4 true 1)) (.w (.ghost (.lock 16)) (.w (.ghost (.lock 17)) (.w (.ghost (.lock 14)) (.w (.ghost (.lock 15)) (.f [] [] (.tup [.agg [vI 0, vI 0, vS
 (ByteArray.mk #[]), vL [], vL []], .agg (vals (Yis x)), li (Ykj x (hdR x s).number s)])))))))))) (.w (.draw [(5, [2]), (6, [3])]) (.w (.ghost (.lock 11)) (.w (.ghost
 (.lock 12)) (.w (.ghost (.lock 4)) (.w (.ghost (.lock 5)) (.f [] [] (.tup [.agg (vals (Yhg (Ynw x (hdR x s).number s))), .agg [vL (x.bindings.map Yhc), vL
 (x.macros.map Yhm), vI (if x.steps = 0 then x.scope else nxS (scA x) 2), vI x.vari, vI (if x.steps = 0 then 0 else x.steps - 1)], li 0]))))))))))))))))))) (by
 dsimp only [Yhf, Z8p]
 have g1 := @Yrq x
 have g2 := Yli x
 have g3 := @Yqb s
 have qz := Y1a1
 have q1 := @Y1b1 x s
 have q2 := @Y1g5 x s
 have q3 := @Y1l7 x s
 have q4 := @Y1li x s
 have q5 := @Y1ls x s
 have q6 := @Y14y x (hdR x s).number s
 with_reducible repeat' (first | apply And.intro | exact zR | (intro) | apply Zcq | apply Zcs | apply Zd5 | apply Zd6)
 all_goals ((try simp only [std, inj] at *); with_reducible and_intros)
 all_goals try with_reducible first | apply Zcq | apply Zcs | apply Zd5 | apply Zd6
 all_goals try first | exact zw | grind [Y1dj, Y1cb, Yhi, Yhh, Yhe])
abbrev Z8q (x : YE) (s : YS) : Ct := ⟨52, [], [Yk1 x, Yhu s], [], .tup [.agg [vI (xsY x s).kind, vI (xsY x s).number, vS (xsY x s).text, vL ((xsY x s).scopes.map Yhd), vL ((xsY x s).items.map Yh9)], .agg [vL ((xsX x s).bindings.map Yhc), vL ((xsX x s).macros.map Yhm), vI (xsX x s).scope, vI (xsX x s).vari, vI (xsX x s).steps], li (xsE x s)]⟩
theorem Z77 (x : YE) (s : YS) (h : wX x <= 1048576 /\ wY s <= 900000000)  : Z8q x s := Yhq Tryz.call52 Tryz.func52 (.d [.rd] (Z5e x) (.d [.rd, .rd] (Z9p
 x s) (.b (!xsB x s) (.w (.draw [(3, [2]), (4, [3])]) (.w (.ghost (.nilbox 2 3 true 1)) (.w (.ghost (.nilbox 2 4 true 1)) (.w (.ghost (.lock 8)) (.w (.ghost (.lock 9)) (.w (.ghost
 (.lock 4)) (.w (.ghost (.lock 5)) (.f [] [] (.tup [.agg [vI 0, vI 0, vS (ByteArray.mk #[]), vL [], vL []], .agg (vals (Yis x)), li 1]))))))))) (.d [.ptr, .rd]
 (Z7s x 0 s) (.i (hdM x s < 0) (.w (.draw [(3, [2]), (4, [3])]) (.w (.ghost (.nilbox 2 3 true 1)) (.w (.ghost (.nilbox 2 4 true 1)) (.w (.ghost (.lock 8)) (.w (.ghost (.lock
 9)) (.w (.ghost (.lock 4)) (.w (.ghost (.lock 5)) (.f [] [] (.tup [.agg [vI 0, vI 0, vS (ByteArray.mk #[]), vL [], vL []], .agg (vals (Yis x)), li 1]))))))))) (.d
 [.ptr, .rd, .rd] (Z7v x 0 (hdM x s) s) (.i (Ykj x (hdM x s) s ≠ 0) (.d [.rd] (Z5e x) (.w (.ghost (.nilbox 2 3 true 1)) (.w (.ghost (.nilbox 2 4 true 1)) (.w (.ghost
 (.lock 16)) (.w (.ghost (.lock 17)) (.w (.ghost (.lock 14)) (.w (.ghost (.lock 15)) (.f [] [] (.tup [.agg [vI 0, vI 0, vS (ByteArray.mk #[]), vL [], vL []], .agg (vals
 (Yis x)), li (Ykj x (hdM x s) s)]))))))))) (.w (.draw [(3, [2]), (4, [3])]) (.w (.ghost (.lock 11)) (.w (.ghost (.lock 12)) (.w (.ghost (.lock 4)) (.w (.ghost (.lock 5))
 (.f [] [] (.tup [.agg (vals (Yhg (Ynw x (hdM x s) s))), .agg [vL (x.bindings.map Yhc), vL (x.macros.map Yhm), vI (if x.steps = 0 then x.scope else if
 nxR x.scope (3 : Int) <= 99999 then nxS (scA x) 2 else x.scope), vI x.vari, vI (if x.steps = 0 then 0 else x.steps - 1)], li 0])))))))))))))) (by
 dsimp only [Yhf, Z8q]
 have g1 := @Yrq x
 have g2 := Yli x
 have g3 := @Yqb s
 have qz := Y1a1
 have q1 := @Y1b1 x s
 have q2 := @Y1g5 x s
 have q4 := @Y1bj x s
 have q6 := @Y14y x (hdM x s) s
 have q7 : xsB x s = true -> Ym6 x = true /\ Yi2 s = true := fun h => by simp only [xsB, Bool.and_eq_true] at h; exact h.1
 with_reducible repeat' (first | apply And.intro | exact zR | (intro) | apply Zct | apply Zga | apply Zd4 | apply Zd7)
 all_goals ((try simp only [std, inj] at *); with_reducible and_intros)
 all_goals try with_reducible first | apply Zct | apply Zga | apply Zd4 | apply Zd7
 all_goals try first | exact zw | grind [Y1dj, Y1cb, Yhi, Yhh, Yhe])
abbrev Z9q (x : YE) (s : YS) : Ct := ⟨53, [.arr true 4 (x.bindings.map Yhc), .arr true 3 (x.macros.map Yhm), .arr true 1 (s.scopes.map Yhd), .arr true 5 (s.items.map Yh9)], [.agg [.ref 0, .ref 1, vI x.scope, vI x.vari, vI x.steps], .agg [vI s.kind, vI s.number, vS s.text, .ref 2, .ref 3]], [.dead, .dead, .dead, .dead, .arr false 5 ((trO x s).map Yh9)], .sv (.one (.ref 4))⟩
def Z6u (x : YE) (s : YS) : Lp (YE × YS × List YS) := .mk 30 4 (fun x => [(5, .one (.ref 4)), (6, .one (.ptr 5 0)), (7, .one (.ptr 6 0))])
 (fun x => [.dead, .dead, .dead, .dead, ho x 10, .box [ha x 0, ha x 1, ha x 2, ha x 3, ha x 4], .box [ha x 5, ha x 6, ha x 7, ha x 8, ha x 9]]) (fun k => [.a (vL
 (k.fst.bindings.map Yhc)), .a (vL (k.fst.macros.map Yhm)), .a (vI k.fst.scope), .a (vI k.fst.vari), .a (vI k.fst.steps), .a (vI k.snd.fst.kind), .a (vI
 k.snd.fst.number), .a (vS k.snd.fst.text), .a (vL (k.snd.fst.scopes.map Yhd)), .a (vL (k.snd.fst.items.map Yh9)), .o (.arr false 5 (k.snd.snd.map Yh9))])
 (fun k => k.snd.snd ++ trO k.fst k.snd.fst = trO x s /\ wX k.fst <= 1048576 /\ wY k.snd.fst <= 900000000) (fun k => k.fst.steps.toNat) [.mk True .ret (fun x => [(4, .one (.ref
 4))]) (fun x => [.dead, .dead, .dead, .dead, ho x 0]) [.o (.arr false 5 ((trO x s).map Yh9))]]
theorem Zgb (x : YE) (s : YS) (h : wX x <= 1048576 /\ wY s <= 900000000) : Lp.Sem Tryz.prog (Yhp Tryz.f53 0) (Z6u x s) := Yhz (fun k => .d [.rd, .rd]
 (Z8p k.fst k.snd.fst) (.i (xsE k.fst k.snd.fst ≠ 0) (.o 0 [0, 1, 2, 3, 4] [.o (.arr false 5 (k.snd.snd.map Yh9))]) (.p (((k.snd.snd.map Yh9).length + 1)
 * 80 <= 140737488355328) (.g [0, 1, 2, 3, 10, 5, 6] (xsX k.fst k.snd.fst, xsY k.fst k.snd.fst, k.snd.snd ++ [xsY k.fst k.snd.fst]) [.a (vL ((xsX k.fst
 k.snd.fst).bindings.map Yhc)), .a (vL ((xsX k.fst k.snd.fst).macros.map Yhm)), .a (vI (xsX k.fst k.snd.fst).scope), .a (vI (xsX k.fst k.snd.fst).vari), .a (vI (xsX k.fst
 k.snd.fst).steps), .a (vI (xsY k.fst k.snd.fst).kind), .a (vI (xsY k.fst k.snd.fst).number), .a (vS (xsY k.fst k.snd.fst).text), .a (vL ((xsY k.fst
 k.snd.fst).scopes.map Yhd)), .a (vL ((xsY k.fst k.snd.fst).items.map Yh9)), .o (.arr false 5 (k.snd.snd.map Yh9 ++ [Yhg (xsY k.fst k.snd.fst)]))])))) (by
 intro k h; try dsimp only [Yhf, Yhl, Z6u] at h ⊢
 obtain ⟨X, Z, L⟩ := k
 simp only at *
 have g1 := @Y1c1 X Z
 have g2 := @Y1dx X Z
 have g3 := @Yre X Z
 have g4 := Y1c2 X Z
 have g5 := Y1am X Z
 have g6 := Y19w x s
 have g7 := congrArg List.length h.1
 with_reducible repeat' (first | apply And.intro | exact zR | (intro) | apply Z76)
 all_goals ((try simp only [std, inj] at *); with_reducible and_intros)
 all_goals try first | with_reducible (first | apply Z76) | (simp only [<- List.map_append]; with_reducible first | apply Z76)
 all_goals try first | exact zw | grind [Yhi, Yhh, Yhe])
theorem Zgc (x : YE) (s : YS) (h : wX x <= 1048576 /\ wY s <= 900000000)  : Z9q x s := Yhq Tryz.call53 Tryz.func53 (.w (.bool true) (.w (.ghost (.lock 0)) (.w (.ghost
 (.lock 1)) (.w (.ghost (.lock 2)) (.w (.ghost (.lock 3)) (.l (Z6u x s) (Zgb x s h) [0, 1, 2, 3, 6, 7, 8] [.a (vL (x.bindings.map Yhc)), .a (vL (List.map
 Yhm x.macros)), .a (vI x.scope), .a (vI x.vari), .a (vI x.steps), .a (vI s.kind), .a (vI s.number), .a (vS s.text), .a (vL (s.scopes.map Yhd)), .a (vL (List.map Yh9
 s.items)), .o (.arr false 5 [])] (x, s, []) (.t (.f [4] [.dead, .dead, .dead, .dead, .arr false 5 ((trO x s).map Yh9)] (.sv (.one (.ref 4)))) .q)))))))
 (by
 dsimp only [Yhf, Z9q, Yhl, Z6u]
 with_reducible repeat' (first | apply And.intro | exact zR | (intro) | apply Z76)
 all_goals ((try simp only [std, inj] at *); with_reducible and_intros)
 all_goals try with_reducible first | apply Z76
 all_goals try first | exact zw | grind [Yhi, Yhh, Yhe])
abbrev Z7w (x : YE) (s : YS) : Ct := ⟨54, [], [Yk1 x, Yhu s], [.arr true 5 ((trO x s).map Yh9)], .sv (.one (.ref 0))⟩
def Z6v (x : YE) (s : YS) : Lp (YE × YS × List YS) := .mk 26 0 (fun x => [(2, .one (.ptr 0 0)), (3, .one (.ptr 1 0)), (5, .one (.ref 2))])
 (fun x => [.box [ha x 0, ha x 1, ha x 2, ha x 3, ha x 4], .box [ha x 5, ha x 6, ha x 7, ha x 8, ha x 9], ho x 10]) (fun k => [.a (vL (k.fst.bindings.map Yhc)), .a
 (vL (k.fst.macros.map Yhm)), .a (vI k.fst.scope), .a (vI k.fst.vari), .a (vI k.fst.steps), .a (vI k.snd.fst.kind), .a (vI k.snd.fst.number), .a (vS k.snd.fst.text), .a (vL
 (k.snd.fst.scopes.map Yhd)), .a (vL (k.snd.fst.items.map Yh9)), .o (.arr true 5 (k.snd.snd.map Yh9))]) (fun k => k.snd.snd ++ trO k.fst k.snd.fst = trO x
 s /\ wX k.fst <= 1048576 /\ wY k.snd.fst <= 900000000) (fun k => k.fst.steps.toNat) [.mk True .ret (fun x => [(4, .one (.ref 0))]) (fun x => [ho x 0]) [.o (.arr true 5 (List.map
 Yh9 (trO x s)))]]
theorem Zgd (x : YE) (s : YS) (h : wX x <= 1048576 /\ wY s <= 900000000) : Lp.Sem Tryz.prog (Yhp Tryz.f54 0) (Z6v x s) := Yhz (fun k => .d [.rd, .rd]
 (Z8q k.fst k.snd.fst) (.i (xsE k.fst k.snd.fst ≠ 0) (.o 0 [2] [.o (.arr true 5 (k.snd.snd.map Yh9))]) (.d [.rd] (Zm (xsY k.fst k.snd.fst)) (.p (((List.map
 Yh9 k.snd.snd).length + 1) * 80 <= 140737488355328) (.w (.draw [(2, [0]), (3, [1])]) (.g [0, 1, 8] (xsX k.fst k.snd.fst, xsY k.fst k.snd.fst, k.snd.snd ++ [xsY k.fst
 k.snd.fst]) [.a (vL ((xsX k.fst k.snd.fst).bindings.map Yhc)), .a (vL ((xsX k.fst k.snd.fst).macros.map Yhm)), .a (vI (xsX k.fst k.snd.fst).scope), .a (vI (xsX
 k.fst k.snd.fst).vari), .a (vI (xsX k.fst k.snd.fst).steps), .a (vI (xsY k.fst k.snd.fst).kind), .a (vI (xsY k.fst k.snd.fst).number), .a (vS (xsY k.fst k.snd.fst).text), .a (vL
 ((xsY k.fst k.snd.fst).scopes.map Yhd)), .a (vL ((xsY k.fst k.snd.fst).items.map Yh9)), .o (.arr true 5 (k.snd.snd.map Yh9 ++ [Yhg (xsY k.fst
 k.snd.fst)]))])))))) (by
 intro k h; try dsimp only [Yhf, Yhl, Z6v] at h ⊢
 obtain ⟨X, Z, L⟩ := k
 simp only at *
 have g1 := @Y1c1 X Z
 have g2 := @Y1dx X Z
 have g3 := @Yre X Z
 have g4 := Y1c2 X Z
 have g5 := Y1am X Z
 have g6 := Y19w x s
 have g7 := congrArg List.length h.1
 with_reducible repeat' (first | apply And.intro | exact zR | (intro) | apply Z77 | apply Z3)
 all_goals ((try simp only [std, inj] at *); with_reducible and_intros)
 all_goals try first | with_reducible (first | apply Z77 | apply Z3) | (simp only [<- List.map_append]; with_reducible first | apply Z77 | apply Z3)
 all_goals try first | exact zw | grind [Yhi, Yhh, Yhe])
theorem Zge (x : YE) (s : YS) (h : wX x <= 1048576 /\ wY s <= 900000000)  : Z7w x s := Yhq Tryz.call54 Tryz.func54 (.w (.ghost (.nilreg 5 true 5)) (.l (Z6v x s)
 (Zgd x s h) [0, 1, 2] [.a (vL (x.bindings.map Yhc)), .a (vL (x.macros.map Yhm)), .a (vI x.scope), .a (vI x.vari), .a (vI x.steps), .a (vI s.kind), .a (vI
 s.number), .a (vS s.text), .a (vL (s.scopes.map Yhd)), .a (vL (s.items.map Yh9)), .o (.arr true 5 [])] (x, s, []) (.t (.f [0] [.arr true 5 (List.map Yh9
 (trO x s))] (.sv (.one (.ref 0)))) .q))) (by
 dsimp only [Yhf, Z7w, Yhl, Z6v]
 with_reducible repeat' (first | apply And.intro | exact zR | (intro) | apply Z77 | apply Z3)
 all_goals ((try simp only [std, inj] at *); with_reducible and_intros)
 all_goals try with_reducible first | apply Z77 | apply Z3
 all_goals try first | exact zw | grind [Yhi, Yhh, Yhe])
set_option maxHeartbeats 4000000
abbrev Z1h (L : List Int) (n : Int) : Ct := ⟨80, [.arr true 1 (L.map Yhd)], [.one (.ref 0), li n], [.arr true 1 ((Yhs mkI Yj3 L n).map Yhd)], .sv (li (n + L.length))⟩
def Z34 (L : List Int) (n : Int) : Lp Nat := .mk 19 1 (fun x => [(0, .one (.ref 0)), (1, hs x 1), (5, hs x 0)]) (fun x => [ho x 2]) (fun k => [.s (li (k : Int)), .s
 (li (n + (k : Int))), .o (.arr true 1 ((Yjp mkI Yj3 L n k).map Yhd))]) (fun k => k <= L.length /\ L.length <= 9223372036854775807) (fun k => L.length - k) [.mk True (.exit
 0) (fun x => [(1, hs x 0)]) (fun x => [ho x 1]) [.s (li (n + (L.length : Int))), .o (.arr true 1 ((Yhs mkI Yj3 L n).map Yhd))]]
theorem Zby (L : List Int) (n : Int) (h0 : 0 <= n) (h : n + (L.length : Int) <= 100000000000000) : Lp.Sem Tryz.prog (Yhp Tryz.f80 0) (Z34 L n) := Yhz (fun k
 => .z Yhd (Yjp mkI Yj3 L n k) (.i ((k : Int) < (↑((Yjp mkI Yj3 L n k).map Yhd).length : Int)) (.p (0 <= (k : Int) /\ (k : Int).toNat < ((Yjp mkI Yj3 L
 n k).map Yhd).length) (.w (.cells (Yhd (L.getD (k : Int).toNat default))) (.p (((Yjp mkI Yj3 L n k).map Yhd)[(k : Int).toNat]? = some [cI (L.getD (k : Int).toNat 0)]) (.r (n +
 (k : Int) + 1) (.r ((k : Int) + 1) (.g [0] (k + 1) [.s (li ((k : Int) + 1)), .s (li (n + (k : Int) + 1)), .o (.arr true 1 (((Yjp mkI Yj3 L n k).map Yhd).set (↑k :
 Int).toNat [cI (n + (k : Int))]))])))))) (.o 0 [0] [.s (li (n + (k : Int))), .o (.arr true 1 ((Yjp mkI Yj3 L n k).map Yhd))]))) (by
 intro k h; try dsimp only [Yhf, Yhl, Z34] at h ⊢
 with_reducible repeat' (first | apply And.intro | exact zR | (intro))
 all_goals (try simp only [std, Yi6, inj] at *)
 all_goals with_reducible and_intros
 all_goals try first | exact z | ((first | refine Yki ?_ | refine Ylc ?_ rfl); (first | omega | (simp only [std, Yi6]; omega) | grind)) | (refine Yke ?_; (simp only [List.length_map, List.length_set, Yjn]; omega)) | (refine Ykf ?_; (first | omega | (simp only [std, Yi6]; omega) | grind)) | (refine Yjv ?_ rfl; (first | omega | (simp only [std, Yi6]; omega) | grind)) | (refine Yjm ?_ ?_; (first | omega | (simp only [std, Yi6]; omega) | grind); (first | grind [Yk0, mkI, Y119, Yhd, Yx4, Yhi, Yhh, Yhe])) | grind [Yk0, mkI, Y119, Yhd, Yx4, Yhi, Yhh, Yhe])
theorem Zn (L : List Int) (n : Int) (h0 : 0 <= n) (h : n + L.length <= 100000000000000)  : Z1h L n := Yhq Tryz.call80 Tryz.func80 (.l (Z34 L n)
 (Zby L n h0 h) [0] [.s (li 0), .s (li n), .o (.arr true 1 (L.map Yhd))] 0 (.t (.f [] [.arr true 1 ((Yhs mkI Yj3 L n).map Yhd)] (.sv (li (n +
 (L.length : Int))))) .q)) (by
 dsimp only [Yhf, Z1h, Yhl, Z34]
 with_reducible repeat' (first | apply And.intro | exact zR | (intro))
 all_goals (try simp only [std, Yi6, inj] at *)
 all_goals with_reducible and_intros
 all_goals try first | exact z | ((first | refine Yki ?_ | refine Ylc ?_ rfl); (first | omega | (simp only [std, Yi6]; omega) | grind)) | (refine Yke ?_; (simp only [List.length_map, List.length_set, Yjn]; omega)) | (refine Ykf ?_; (first | omega | (simp only [std, Yi6]; omega) | grind)) | (refine Yjv ?_ rfl; (first | omega | (simp only [std, Yi6]; omega) | grind)) | (refine Yjm ?_ ?_; (first | omega | (simp only [std, Yi6]; omega) | grind); (first | grind [Yua, Yhi, Yhh, Yhe])) | grind [Yua, Yhi, Yhh, Yhe])
abbrev Z2c (n : Int) : Ct := ⟨95, [], [li n], [], .sv (ls (Yj2 n))⟩
def Z35 (n : Int) : Lp (Int × List UInt8) := .mk 20 0 (fun x => [(0, hs x 0), (3, hs x 1)]) (fun x => []) (fun k => [.s (li k.fst), .s (ls (mkS k.snd))]) (fun k => 0 <=
 k.fst /\ k.fst <= n /\ Ymn k.fst.toNat ++ k.snd = Ymn n.toNat) (fun k => k.fst.toNat) [.mk True (.exit 0) (fun x => [(3, hs x 0)]) (fun x => []) [.s (ls (mkS (Ymn n.toNat)))]]
theorem Zbz (n : Int) (h0 : 0 <= n) (h : n <= 100000000000000) : Lp.Sem Tryz.prog (Yhp Tryz.f95 0) (Z35 n) := Yhz (fun k => .i (0 < k.fst) (.p ((10 : Int) ≠
 0) (.r (48 + k.fst.tmod 10) (.p (rng IntKind.u8 (48 + k.fst.tmod 10)) (.w (.bytes [UInt8.ofNat (48 + k.fst.tmod 10).toNat]) (.p ([[Cell.lit (Value.int IntKind.u8 (48 + k.fst.tmod
 10))]] = [[Cell.lit (Value.int IntKind.u8 (↑(UInt8.ofNat (48 + k.fst.tmod 10).toNat).toNat : Int))]]) (.p (1 + k.snd.length <= 9223372036854775807) (.p ((10 : Int) ≠ 0) (.r
 (k.fst.tdiv 10) (.g [] (k.fst.tdiv 10, [UInt8.ofNat (48 + k.fst.tmod 10).toNat] ++ k.snd) [.s (li (k.fst.tdiv 10)), .s (ls (ByteArray.mk ([UInt8.ofNat (48 + k.fst.tmod 10).toNat]
 ++ k.snd).toArray))]))))))))) (.o 0 [] [.s (ls (mkS k.snd))])) (by
 intro k h; try dsimp only [Yhf, Yhl, Z35] at h ⊢
 obtain ⟨i, l⟩ := k
 simp only at *
 obtain ⟨g1, g2, g3⟩ := h
 have g4 : l.length <= 100000000000000 := by
  have := congrArg List.length g3
  have := Y13r n.toNat
  simp only [List.length_append] at *
  omega
 simp only [Int.tmod_eq_emod_of_nonneg g1, Int.tdiv_eq_ediv_of_nonneg g1]
 refine ⟨fun g => ?_, fun g => ?_⟩
 ·refine ⟨by decide, by rw [Y1aq]; omega, by rw [Y1m3]; omega, by rw [Y1ji (by omega) (by omega)], by omega, by decide, by rw [Y1aq]; omega, by omega, rfl, ?_⟩
  exact ⟨by show 0 <= i / 10; omega, by show i / 10 <= n; omega, by show Ymn (i / 10).toNat ++ ([_] ++ l) = _; rw [<- g3, Y1f0 g, List.append_assoc]⟩
 ·refine ⟨trivial, ?_⟩
  have e : i = 0 := by omega
  subst e
  rw [show Ymn (0 : Int).toNat = [] from Y1ba] at g3
  rw [<- g3]; rfl)
theorem Zb (n : Int) (h0 : 0 <= n) (h : n <= 100000000000000)  : Z2c n := Yhq Tryz.call95 Tryz.func95 (.i (n <= 0) (.s (ls (ByteArray.mk #[(109 : UInt8), (48 :
 UInt8)]))) (.l (Z35 n) (Zbz n h0 h) [] [.s (li n), .s (ls (ByteArray.mk #[]))] (n, []) (.t (.p (1 + (Ymn n.toNat).length <= 9223372036854775807) (.s (ls
 (ByteArray.mk ([(109 : UInt8)] ++ Ymn n.toNat).toArray)))) .q))) (by
 dsimp only [Yhf, Z2c, Yhl, Z35]
 have g := Y13r n.toNat
 simp only [Yj2]
 with_reducible repeat' (first | apply And.intro | exact zR | (intro))
 all_goals (try simp only [std, Yi6, inj] at *)
 all_goals with_reducible and_intros
 all_goals try first | exact z | ((first | refine Yki ?_ | refine Ylc ?_ rfl); (first | omega | (simp only [std, Yi6]; omega) | grind)) | (refine Yke ?_; (simp only [List.length_map, List.length_set, Yjn]; omega)) | (refine Ykf ?_; (first | omega | (simp only [std, Yi6]; omega) | grind)) | (refine Yjv ?_ rfl; (first | omega | (simp only [std, Yi6]; omega) | grind)) | (refine Yjm ?_ ?_; (first | omega | (simp only [std, Yi6]; omega) | grind); (first | grind [mkS, Yhi, Yhh, Yhe])) | grind [mkS, Yhi, Yhh, Yhe])
abbrev Z4 (x : YS) (n : Int) : Ct := ⟨45, [.arr true 5 (x.items.map Yh9)], [.one (.ref 0), li n], [.arr true 5 ((Yhs mkY cY x.items n).map Yh9)], .sv (li (n + Yhb cY x.items))⟩
def Z1a (x : YS) (n : Int) : Lp Nat := .mk 49 1 (fun x => [(0, .one (.ref 0)), (1, hs x 1), (5, hs x 0)]) (fun x => [ho x 2]) (fun k => [.s (li (k : Int)),
 .s (li (n + (↑(Yhb cY (x.items.take k)) : Int))), .o (.arr true 5 ((Yjp mkY cY x.items n k).map Yh9))]) (fun k => k <= x.items.length /\ x.items.length <=
 9223372036854775807) (fun k => x.items.length - k) [.mk True (.exit 0) (fun x => [(1, hs x 0)]) (fun x => [ho x 1]) [.s (li (n + (↑(Yhb cY x.items) : Int))), .o (.arr true 5
 ((Yhs mkY cY x.items n).map Yh9))]]
theorem Z8r (x : YS) (n : Int) (h0 : 0 <= n) (h : n + (↑(Yhb cY x.items) : Int) <= 100000000000000) (ih : ∀ (z : YS), z ∈ x.items -> ∀ (n : Int), 0 <= n -> n +
 (↑(Yhb cY z.items) : Int) <= 100000000000000 -> OK (Z4 z n)) : Lp.Sem Tryz.prog (Yhp Tryz.f45 0) (Z1a x n) := Yhz (fun k => let v8 := (↑(Yhb cY
 (x.items.take k)) : Int); let v12 := (n + v8 + 1 + 1); let v7 := (x.items.getD (k : Int).toNat default); let v13 := (v7.scopes.map Yhd); let v11 := (List.map Yh9
 v7.items); let v1 := [cI (n + v8), cI (n + v8 + 1), cS (Yj2 v12), .list v13, .list v11]; let v10 := (n + v8 + 1 + 1 + 1); let v2 := [cI (n + v8), cI (n + v8 + 1), cS
 (Yj2 v12), .list ((Yhs mkI Yj3 v7.scopes v10).map Yhd), .list v11]; let v3 := [cI (n + v8), cI (n + v8 + 1), cS v7.text, .list v13, .list v11]; let v4 :=
 [cI (n + v8), cI v7.number, cS v7.text, .list v13, .list v11]; let v5 := ((Yjp mkY cY x.items n k).map Yh9); let v6 := (n + v8 + 1 + 1 + 1 + (↑(x.items.getD (↑k
 : Int).toNat default).scopes.length : Int)); let v9 := (v5.set (k : Int).toNat v1); .z Yh9 (Yjp mkY cY x.items n k) (.i ((k : Int) < (↑((Yjp mkY cY
 x.items n k).map Yh9).length : Int)) (.p (0 <= (k : Int) /\ (k : Int).toNat < v5.length) (.w (.cells (Yhg v7)) (.p (v5[(k : Int).toNat]? = some (Yhg v7)) (.r (n + v8 + 1) (.p (0
 <= (k : Int) /\ (k : Int).toNat < (v5.set (k : Int).toNat v4).length) (.w (.take v4 (v5.set (k : Int).toNat v3) 0) (.p ((v5.set (k : Int).toNat v4)[(k : Int).toNat]? = some
 v4) (.p ((v5.set (k : Int).toNat v4).set (k : Int).toNat v3 = v5.set (k : Int).toNat v3) (.r v12 (.d [.rd] (Z2c v12) (.p (0 <= (k : Int) /\ (k : Int).toNat < (v5.set
 (k : Int).toNat v3).length) (.w (.take v3 v9 0) (.p ((v5.set (k : Int).toNat v3)[(k : Int).toNat]? = some v3) (.p ((v5.set (k : Int).toNat v3).set (k : Int).toNat v1 = v5.set
 (k : Int).toNat v1) (.r v10 (.p (0 <= (k : Int) /\ (k : Int).toNat < v9.length) (.w .sub (.p ((k : Int).toNat < v9.length) (.w (.subcall v1 v13 1) (.u [.own true 1, .rd]
 (Z1h v7.scopes v10) (.p (v9[(k : Int).toNat]? = some v1) (.p (some (Cell.list v13) = some (Cell.list v13)) (.p (∀ (x_1 : List Cell), x_1 ∈ v7.scopes.map Yhd ->
 x_1.length = 1) (.p (OK (Z1h v7.scopes v10)) (.p (0 <= (k : Int) /\ (k : Int).toNat < (v9.set (k : Int).toNat v2).length) (.w .sub (.p ((k : Int).toNat < (v9.set (↑k :
 Int).toNat v2).length) (.w (.subcall v2 v11 5) (.u [.own true 5, .rd] (Z4 v7 v6) (.p ((v9.set (k : Int).toNat v2)[(k : Int).toNat]? = some v2) (.p (some (Cell.list
 v11) = some (Cell.list v11)) (.p (∀ (x_1 : List Cell), x_1 ∈ v7.items.map Yh9 -> x_1.length = 5) (.p (OK (Z4 v7 v6)) (.r ((k : Int) + 1) (.g [0] (k + 1) [.s
 (li ((k : Int) + 1)), .s (li (n + v8 + 1 + 1 + 1 + (↑(x.items.getD (k : Int).toNat default).scopes.length : Int) + (↑(Yhb cY v7.items) : Int))), .o (.arr true 5 ((v9.set (↑k
 : Int).toNat v2).set (k : Int).toNat [cI (n + v8), cI (n + v8 + 1), cS (Yj2 v12), .list ((Yhs mkI Yj3 v7.scopes v10).map Yhd), .list ((Yhs mkY
 cY v7.items v6).map Yh9)]))]))))))))))))))))))))))))))))))))))) (.o 0 [0] [.s (li (n + v8)), .o (.arr true 5 v5)]))) (by
 intro k h; try dsimp only [Yhf, Yhl, Z1a] at h ⊢
 have g0 := Yiz cY x.items (k + 1)
 with_reducible repeat' (first | apply And.intro | exact zR | exact ih | (intro) | apply Zb | apply Zn | apply ih)
 all_goals (try simp only [std, Yi6, inj] at *)
 all_goals with_reducible and_intros
 all_goals try with_reducible first | apply Zb | apply Zn | apply ih
 all_goals try first | exact z | ((first | refine Yki ?_ | refine Ylc ?_ rfl); (first | omega | (simp only [std, Yi6]; omega) | grind)) | (refine Yke ?_; (simp only [List.length_map, List.length_set, Yjn]; omega)) | (refine Ykf ?_; (first | omega | (simp only [std, Yi6]; omega) | grind)) | (refine Yjv ?_ rfl; (first | omega | (simp only [std, Yi6]; omega) | grind)) | (refine Yjm ?_ ?_; (first | omega | (simp only [std, Yi6]; omega) | grind); (first | exact Y1a2 _ _ | grind [Yjj, Yhj, Yq0, Y1a2, Yk0, Yhi, Yhh, Yhe])) | grind [Yjj, Yhj, Yq0, Y1a2, Yk0, Yhi, Yhh, Yhe])
theorem Za6 (x : YS) (n : Int) (h0 : 0 <= n) (h : n + Yhb cY x.items <= 100000000000000) (ih : ∀ z ∈ x.items, ∀ (n : Int) (h0 : 0 <= n) (h : n + Yhb cY z.items <=
 100000000000000), Z4 z n)  : Z4 x n := Yhq Tryz.call45 Tryz.func45 (.l (Z1a x n) (Z8r x n h0 h ih) [0] [.s (li 0), .s (li
 n), .o (.arr true 5 (x.items.map Yh9))] 0 (.t (.f [] [.arr true 5 ((Yhs mkY cY x.items n).map Yh9)] (.sv (li (n + (↑(Yhb cY x.items) : Int))))) .q)) (by
 dsimp only [Yhf, Z4, Yhl, Z1a]
 have gl := Y1c8 x.items
 with_reducible repeat' (first | apply And.intro | exact zR | exact ih | (intro) | apply Zb | apply Zn)
 all_goals (try simp only [std, Yi6, inj] at *)
 all_goals with_reducible and_intros
 all_goals try with_reducible first | apply Zb | apply Zn | apply ih
 all_goals try first | exact z | ((first | refine Yki ?_ | refine Ylc ?_ rfl); (first | omega | (simp only [std, Yi6]; omega) | grind)) | (refine Yke ?_; (simp only [List.length_map, List.length_set, Yjn]; omega)) | (refine Ykf ?_; (first | omega | (simp only [std, Yi6]; omega) | grind)) | (refine Yjv ?_ rfl; (first | omega | (simp only [std, Yi6]; omega) | grind)) | (refine Yjm ?_ ?_; (first | omega | (simp only [std, Yi6]; omega) | grind); (first | grind [Yk0, Yhi, Yhh, Yhe])) | grind [Yk0, Yhi, Yhh, Yhe])
theorem Zc (x : YS) : ∀ (n : Int) (h0 : 0 <= n) (h : n + Yhb cY x.items <= 100000000000000), Z4 x n := YS.ind (P := fun x => ∀ (n : Int) (h0 : 0 <= n) (h : n + Yhb cY x.items <= 100000000000000), Z4 x n) (fun x ih n h0 h => Za6 x n h0 h ih) x
theorem Zf (L : List YS) (n : Int) (h0 : 0 <= n) (h : n + Yhb cY L <= 100000000000000) : Z4 { (default : YS) with items := L } n := Zc { (default : YS) with items := L } n h0 h
abbrev Z43 (x : YS) (n : Int) : Ct := ⟨23, [.arr true 1 (x.scopes.map Yhd), .arr true 5 (x.items.map Yh9)], [.agg [vI x.kind, vI x.number, vS x.text, .ref 0, .ref 1], li n], [.arr true 1 ((Yhs mkI Yj3 x.scopes (n)).map Yhd), .arr true 5 ((Yhs mkY cY x.items (n + x.scopes.length)).map Yh9)], .sv (li (n + x.scopes.length + Yhb cY x.items))⟩
theorem Z8s (x : YS) (n : Int) (h0 : 0 <= n) (h : n + (x.scopes.length + Yhb cY x.items : Nat) <= 100000000000000)  : Z43 x n := Yhq Tryz.call23 Tryz.func23
 (.d [.own true 1, .rd] (Z1h x.scopes n) (.d [.own true 5, .rd] (Z4 x (n + (x.scopes.length : Int))) (.f [] [.arr true 1 ((Yhs mkI Yj3
 x.scopes n).map Yhd), .arr true 5 ((Yhs mkY cY x.items (n + (x.scopes.length : Int))).map Yh9)] (.sv (li (n + (x.scopes.length : Int) + (↑(Yhb cY x.items) : Int)))))))
 (by
 dsimp only [Yhf, Z43]
 with_reducible repeat' (first | apply And.intro | exact zR | (intro) | apply Zn | apply Zc | apply Zf)
 all_goals (try simp only [std, Yi6, inj] at *)
 all_goals with_reducible and_intros
 all_goals try with_reducible first | apply Zn | apply Zc | apply Zf
 all_goals try first | exact z | ((first | refine Yki ?_ | refine Ylc ?_ rfl); (first | omega | (simp only [std, Yi6]; omega) | grind)) | (refine Yke ?_; (simp only [List.length_map, List.length_set, Yjn]; omega)) | (refine Ykf ?_; (first | omega | (simp only [std, Yi6]; omega) | grind)) | (refine Yjv ?_ rfl; (first | omega | (simp only [std, Yi6]; omega) | grind)) | (refine Yjm ?_ ?_; (first | omega | (simp only [std, Yi6]; omega) | grind); (first | grind [Yhi, Yhh, Yhe])) | grind [Yhi, Yhh, Yhe])
abbrev Z3c (L : List YB) (n : Int) : Ct := ⟨44, [.arr true 4 (L.map Yhc)], [.one (.ref 0), li n], [.arr true 4 ((Yhs mkB cB L n).map Yhc)], .sv (li (n + Yhb cB L))⟩
def Z1f (L : List YB) (n : Int) : Lp Nat := .mk 42 1 (fun x => [(0, .one (.ref 0)), (1, hs x 1), (5, hs x 0)]) (fun x => [ho x 2]) (fun k => [.s (li (↑k :
 Int)), .s (li (n + (↑(Yhb cB (L.take k)) : Int))), .o (.arr true 4 ((Yjp mkB cB L n k).map Yhc))]) (fun k => k <= L.length /\ L.length <= 9223372036854775807)
 (fun k => L.length - k) [.mk True (.exit 0) (fun x => [(1, hs x 0)]) (fun x => [ho x 1]) [.s (li (n + (↑(Yhb cB L) : Int))), .o (.arr true 4 ((Yhs mkB cB L
 n).map Yhc))]]
theorem Z96 (L : List YB) (n : Int) (h0 : 0 <= n) (h : n + (↑(Yhb cB L) : Int) <= 100000000000000) : Lp.Sem Tryz.prog (Yhp Tryz.f44 0) (Z1f L n)
 := Yhz (fun k => let v9 := ((Yjp mkB cB L n k).map Yhc); let v8 := (↑(Yhb cB (L.take k)) : Int); let v7 := (L.getD (k : Int).toNat default); let v11 := [cS
 (Yj2 (n + v8)), .list (v7.scopes.map Yhd), cI v7.kind, cI v7.number]; let v1 := (v9.set (k : Int).toNat v11); let v12 := ((Yhs mkI Yj3 v7.scopes (n +
 v8 + 1)).map Yhd); let v10 := (↑(L.getD (k : Int).toNat default).scopes.length : Int); let v2 := [cS (Yj2 (n + v8)), .list v12, cI (n + v8 + 1 + v10), cI v7.number]; let v3 := [cS
 (Yj2 (n + v8)), .list v12, cI (n + v8 + 1 + v10), cI (n + v8 + 1 + v10 + 1)]; let v4 := [cS (Yj2 (n + v8)), .list v12, cI v7.kind, cI v7.number]; let v5 := (n + v8 + 1
 + v10 + 1 + 1); let v6 := (Z1h v7.scopes (n + v8 + 1)); .z Yhc (Yjp mkB cB L n k) (.i ((k : Int) < (↑((Yjp mkB cB L n k).map Yhc).length : Int)) (.d
 [.rd] (Z2c (n + v8)) (.p (0 <= (k : Int) /\ (k : Int).toNat < v9.length) (.w (.cells (Yhx v7)) (.p (v9[(k : Int).toNat]? = some (Yhx v7)) (.r (n + v8 + 1) (.p
 (0 <= (k : Int) /\ (k : Int).toNat < v1.length) (.w .sub (.p ((k : Int).toNat < v1.length) (.w (.subcall v11 (v7.scopes.map Yhd) 1) (.u [.own true 1, .rd] v6 (.p (v1[(↑k :
 Int).toNat]? = some v11) (.p (some (Cell.list (v7.scopes.map Yhd)) = some (Cell.list (v7.scopes.map Yhd))) (.p (∀ (x : List Cell), x ∈ v7.scopes.map Yhd ->
 x.length = 1) (.p (OK v6) (.p (0 <= (k : Int) /\ (k : Int).toNat < (v1.set (k : Int).toNat v4).length) (.w (.take v4 (v1.set (k : Int).toNat v2) 0) (.p ((v1.set (k : Int).toNat
 v4)[(k : Int).toNat]? = some v4) (.p ((v1.set (k : Int).toNat v4).set (k : Int).toNat v2 = v1.set (k : Int).toNat v2) (.r (n + v8 + 1 + v10 + 1) (.p (0 <= (k : Int) /\ (↑k :
 Int).toNat < (v1.set (k : Int).toNat v2).length) (.w (.take v2 (v1.set (k : Int).toNat v3) 0) (.p ((v1.set (k : Int).toNat v2)[(k : Int).toNat]? = some v2) (.p ((v1.set (↑k :
 Int).toNat v2).set (k : Int).toNat v3 = v1.set (k : Int).toNat v3) (.r v5 (.r ((k : Int) + 1) (.g [0] (k + 1) [.s (li ((k : Int) + 1)), .s (li v5), .o (.arr true 4 (v1.set
 (k : Int).toNat v3))])))))))))))))))))))))))))) (.o 0 [0] [.s (li (n + v8)), .o (.arr true 4 v9)]))) (by
 intro k h; try dsimp only [Yhf, Yhl, Z1f] at h ⊢
 have g0 := Yiz cB L (k + 1)
 with_reducible repeat' (first | apply And.intro | exact zR | (intro) | apply Zb | apply Zn)
 all_goals (try simp only [std, Yi6, inj] at *)
 all_goals with_reducible and_intros
 all_goals try with_reducible first | apply Zb | apply Zn
 all_goals try first | exact z | ((first | refine Yki ?_ | refine Ylc ?_ rfl); (first | omega | (simp only [std, Yi6]; omega) | grind)) | (refine Yke ?_; (simp only [List.length_map, List.length_set, Yjn]; omega)) | (refine Ykf ?_; (first | omega | (simp only [std, Yi6]; omega) | grind)) | (refine Yjv ?_ rfl; (first | omega | (simp only [std, Yi6]; omega) | grind)) | (refine Yjm ?_ ?_; (first | omega | (simp only [std, Yi6]; omega) | grind); (first | exact Y19m _ _ | grind [Yjj, Yhj, Yy4, Y19m, Yk0, Yhi, Yhh, Yhe])) | grind [Yjj, Yhj, Yy4, Y19m, Yk0, Yhi, Yhh, Yhe])
theorem Z78 (L : List YB) (n : Int) (h0 : 0 <= n) (h : n + Yhb cB L <= 100000000000000)  : Z3c L n := Yhq Tryz.call44 Tryz.func44 (.l (Z1f
 L n) (Z96 L n h0 h) [0] [.s (li 0), .s (li n), .o (.arr true 4 (L.map Yhc))] 0 (.t (.f [] [.arr true 4 ((Yhs mkB cB L n).map Yhc)] (.sv
 (li (n + (↑(Yhb cB L) : Int))))) .q)) (by
 dsimp only [Yhf, Z3c, Yhl, Z1f]
 have gl := Y1j7 L
 with_reducible repeat' (first | apply And.intro | exact zR | (intro) | apply Zb | apply Zn)
 all_goals (try simp only [std, Yi6, inj] at *)
 all_goals with_reducible and_intros
 all_goals try with_reducible first | apply Zb | apply Zn
 all_goals try first | exact z | ((first | refine Yki ?_ | refine Ylc ?_ rfl); (first | omega | (simp only [std, Yi6]; omega) | grind)) | (refine Yke ?_; (simp only [List.length_map, List.length_set, Yjn]; omega)) | (refine Ykf ?_; (first | omega | (simp only [std, Yi6]; omega) | grind)) | (refine Yjv ?_ rfl; (first | omega | (simp only [std, Yi6]; omega) | grind)) | (refine Yjm ?_ ?_; (first | omega | (simp only [std, Yi6]; omega) | grind); (first | grind [Yk0, Yhi, Yhh, Yhe])) | grind [Yk0, Yhi, Yhh, Yhe])
abbrev Z44 (L : List YR) (n : Int) : Ct := ⟨79, [.arr true 3 (L.map Yhm)], [.one (.ref 0), li n], [.arr true 3 ((Yhs mkR cR L n).map Yhm)], .sv (li (n + Yhb cR L))⟩
def Z1x (L : List YR) (n : Int) : Lp Nat := .mk 34 1 (fun x => [(0, .one (.ref 0)), (1, hs x 1), (5, hs x 0)]) (fun x => [ho x 2]) (fun k => [.s (li (k : Int)),
 .s (li (n + (↑(Yhb cR (L.take k)) : Int))), .o (.arr true 3 ((Yjp mkR cR L n k).map Yhm))]) (fun k => k <= L.length /\ L.length <= 9223372036854775807) (fun k =>
 L.length - k) [.mk True (.exit 0) (fun x => [(1, hs x 0)]) (fun x => [ho x 1]) [.s (li (n + (↑(Yhb cR L) : Int))), .o (.arr true 3 ((Yhs mkR cR L n).map Yhm))]]
theorem Za7 (L : List YR) (n : Int) (h0 : 0 <= n) (h : n + (↑(Yhb cR L) : Int) <= 100000000000000) (h2 : L.length <= 2147483647) : Lp.Sem Tryz.prog (Yhp Tryz.f79
 0) (Z1x L n) := Yhz (fun k => let v8 := ((Yjp mkR cR L n k).map Yhm); let v10 := (L.getD k default); let v11 := (↑(Yhb cR (L.take k)) : Int); let v14
 := ((Yhs mkY cY v10.literals (n + v11)).map Yh9); let v15 := (v10.patterns.map Yh9); let v13 := (v10.templates.map Yh9); let v6 := [.list v14,
 .list v15, .list v13]; let v12 := (↑(Yhb cY v10.literals) : Int); let v7 := [.list v14, .list ((Yhs mkY cY v10.patterns (n + v11 + v12)).map Yh9),
 .list v13]; let v1 := ((v8.set (k : Int).toNat v6).set (k : Int).toNat v7); let v2 := (n + v11 + v12 + (↑(Yhb cY v10.patterns) : Int)); let v3 := (Z4
 (YS.mk 0 0 default [] v10.patterns) (n + v11 + v12)); let v4 := (Z4 (YS.mk 0 0 default [] v10.literals) (n + v11)); let v5 := (v10.literals.map Yh9);
 let v9 := (Z4 (YS.mk 0 0 default [] v10.templates) v2); .z Yhm (Yjp mkR cR L n k) (.i ((k : Int) < (↑((Yjp mkR cR L n k).map Yhm).length : Int)) (.p
 (0 <= (k : Int) /\ (k : Int).toNat < v8.length) (.w .sub (.p ((k : Int).toNat < v8.length) (.w (.subcall (Yix v10) v5 5) (.u [.own true 5, .rd] v4 (.p (v8[(k : Int).toNat]? =
 some (Yix v10)) (.p (some (Cell.list v5) = some (Cell.list v5)) (.p (∀ (x : List Cell), x ∈ v10.literals.map Yh9 -> x.length = 5) (.p (OK v4) (.p (0 <= (k : Int) /\ (↑k
 : Int).toNat < (v8.set (k : Int).toNat v6).length) (.w .sub (.p ((k : Int).toNat < (v8.set (k : Int).toNat v6).length) (.w (.subcall v6 v15 5) (.u [.own true 5, .rd] v3 (.p
 ((v8.set (k : Int).toNat v6)[(k : Int).toNat]? = some v6) (.p (some (Cell.list v15) = some (Cell.list v15)) (.p (∀ (x : List Cell), x ∈ v10.patterns.map Yh9 -> x.length
 = 5) (.p (OK v3) (.p (0 <= (k : Int) /\ (k : Int).toNat < v1.length) (.w .sub (.p ((k : Int).toNat < v1.length) (.w (.subcall v7 v13 5) (.u [.own true 5, .rd] v9 (.p (v1[(↑k :
 Int).toNat]? = some v7) (.p (some (Cell.list v13) = some (Cell.list v13)) (.p (∀ (x : List Cell), x ∈ v10.templates.map Yh9 -> x.length = 5) (.p (OK v9) (.r ((k : Int) +
 1) (.g [0] (k + 1) [.s (li ((k : Int) + 1)), .s (li (n + v11 + v12 + (↑(Yhb cY v10.patterns) : Int) + (↑(Yhb cY v10.templates) : Int))), .o (.arr true 3 (v1.set (↑k :
 Int).toNat [.list v14, .list ((Yhs mkY cY v10.patterns (n + v11 + v12)).map Yh9), .list ((Yhs mkY cY v10.templates
 v2).map Yh9)]))]))))))))))))))))))))))))))))) (.o 0 [0] [.s (li (n + v11)), .o (.arr true 3 v8)]))) (by
 intro k h; try dsimp only [Yhf, Yhl, Z1x] at h ⊢
 have g0 := Yiz cR L (k + 1)
 with_reducible repeat' (first | apply And.intro | exact zR | (intro) | apply Zc | apply Zf)
 all_goals (try simp only [std, Yi6, inj] at *)
 all_goals with_reducible and_intros
 all_goals try with_reducible first | apply Zc | apply Zf
 all_goals try first | exact z | ((first | refine Yki ?_ | refine Ylc ?_ rfl); (first | omega | (simp only [std, Yi6]; omega) | grind)) | (refine Yke ?_; (simp only [List.length_map, List.length_set, Yjn]; omega)) | (refine Ykf ?_; (first | omega | (simp only [std, Yi6]; omega) | grind)) | (refine Yjv ?_ rfl; (first | omega | (simp only [std, Yi6]; omega) | grind)) | (refine Yjm ?_ ?_; (first | omega | (simp only [std, Yi6]; omega) | grind); (first | exact Y1a3 _ _ | grind [Yjj, Yhj, Y120, Y1a3, Yk0, Yhi, Yhh, Yhe])) | grind [Yjj, Yhj, Y120, Y1a3, Yk0, Yhi, Yhh, Yhe])
theorem Z8t (L : List YR) (n : Int) (h0 : 0 <= n) (h : n + Yhb cR L <= 100000000000000) (h2 : L.length <= 2147483647)  : Z44 L n := Yhq Tryz.call79 Tryz.func79
 (.l (Z1x L n) (Za7 L n h0 h h2) [0] [.s (li 0), .s (li n), .o (.arr true 3 (L.map Yhm))] 0 (.t (.f [] [.arr true 3 ((Yhs mkR
 cR L n).map Yhm)] (.sv (li (n + (↑(Yhb cR L) : Int))))) .q)) (by
 dsimp only [Yhf, Z44, Yhl, Z1x]
 with_reducible repeat' (first | apply And.intro | exact zR | (intro) | apply Zc | apply Zf)
 all_goals (try simp only [std, Yi6, inj] at *)
 all_goals with_reducible and_intros
 all_goals try with_reducible first | apply Zc | apply Zf
 all_goals try first | exact z | ((first | refine Yki ?_ | refine Ylc ?_ rfl); (first | omega | (simp only [std, Yi6]; omega) | grind)) | (refine Yke ?_; (simp only [List.length_map, List.length_set, Yjn]; omega)) | (refine Ykf ?_; (first | omega | (simp only [std, Yi6]; omega) | grind)) | (refine Yjv ?_ rfl; (first | omega | (simp only [std, Yi6]; omega) | grind)) | (refine Yjm ?_ ?_; (first | omega | (simp only [std, Yi6]; omega) | grind); (first | grind [Yk0, Yhi, Yhh, Yhe])) | grind [Yk0, Yhi, Yhh, Yhe])
abbrev Z3d (x : YE) (n : Int) : Ct := ⟨22, [.arr true 4 (x.bindings.map Yhc), .arr true 3 (x.macros.map Yhm)], [.agg [.ref 0, .ref 1, vI x.scope, vI x.vari, vI x.steps], li n], [.arr true 4 ((Yhs mkB cB x.bindings (n)).map Yhc), .arr true 3 ((Yhs mkR cR x.macros (n + Yhb cB x.bindings)).map Yhm)], .sv (li (n + Yhb cB x.bindings + Yhb cR x.macros))⟩
theorem Z79 (x : YE) (n : Int) (h0 : 0 <= n) (h : n + (Yhb cB x.bindings + Yhb cR x.macros : Nat) <= 100000000000000) (h21 : x.macros.length <= 2147483647)  :
 Z3d x n := Yhq Tryz.call22 Tryz.func22 (.d [.own true 4, .rd] (Z3c x.bindings n) (.d [.own true 3, .rd] (Z44 x.macros (n + (↑(Yhb cB
 x.bindings) : Int))) (.f [] [.arr true 4 ((Yhs mkB cB x.bindings n).map Yhc), .arr true 3 ((Yhs mkR cR x.macros (n + (↑(Yhb cB x.bindings) :
 Int))).map Yhm)] (.sv (li (n + (↑(Yhb cB x.bindings) : Int) + (↑(Yhb cR x.macros) : Int))))))) (by
 dsimp only [Yhf, Z3d]
 with_reducible repeat' (first | apply And.intro | exact zR | (intro) | apply Z78 | apply Z8t)
 all_goals (try simp only [std, Yi6, inj] at *)
 all_goals with_reducible and_intros
 all_goals try with_reducible first | apply Z78 | apply Z8t
 all_goals try first | exact z | ((first | refine Yki ?_ | refine Ylc ?_ rfl); (first | omega | (simp only [std, Yi6]; omega) | grind)) | (refine Yke ?_; (simp only [List.length_map, List.length_set, Yjn]; omega)) | (refine Ykf ?_; (first | omega | (simp only [std, Yi6]; omega) | grind)) | (refine Yjv ?_ rfl; (first | omega | (simp only [std, Yi6]; omega) | grind)) | (refine Yjm ?_ ?_; (first | omega | (simp only [std, Yi6]; omega) | grind); (first | grind [Yhi, Yhh, Yhe])) | grind [Yhi, Yhh, Yhe])
set_option maxHeartbeats 4000000
abbrev Z66 (L : List Int) (n : Int) : Ct := ⟨99, [], [ll (L.map Yhd), li n], [], .sv (li (n + L.length))⟩
def Z36 (L : List Int) (n : Int) : Lp Nat := .mk 21 0 (fun x => [(0, ll (L.map Yhd)), (1, hs x 1), (5, hs x 0)]) (fun x => []) (fun k => [.s (li (k : Int)), .s (li
 (n + (k : Int)))]) (fun k => k <= L.length /\ L.length <= 9223372036854775807) (fun k => L.length - k) [.mk True (.exit 0) (fun x => [(1, hs x 0)]) (fun x => []) [.s (li (n +
 (L.length : Int)))], .mk False .ret (fun x => [(4, hs x 0)]) (fun x => []) [.s (li (-1 : Int))]]
theorem Zc0 (L : List Int) (n : Int) (h0 : 0 <= n) (h : n + (L.length : Int) <= 100000000000000) (hm : Yhs mkI Yj3 L n = L) : Lp.Sem Tryz.prog (Yhp Tryz.f99 0)
 (Z36 L n) := Yhz (fun k => .z Yhd L (.i ((k : Int) < (↑(L.map Yhd).length : Int)) (.x (k : Int) (L.map Yhd) [cI (L.getD k 0)] (.i (L.getD k (0 : Int) ≠ n
 + (k : Int)) (.o 1 [] [.s (li (-1 : Int))]) (.r (n + (k : Int) + 1) (.r ((k : Int) + 1) (.g [] (k + 1) [.s (li ((k : Int) + 1)), .s (li (n + (k : Int) + 1))]))))) (.o 0 []
 [.s (li (n + (k : Int)))]))) (by
 intro k h; try dsimp only [Yhf, Yhl, Z36] at h ⊢
 with_reducible repeat' (first | apply And.intro | exact zR | (intro))
 all_goals (try simp only [std, Yi6, inj] at *)
 all_goals with_reducible and_intros
 all_goals try first | exact z | ((first | refine Yki ?_ | refine Ylc ?_ rfl); (first | omega | (simp only [std, Yi6]; omega) | grind)) | (refine Yke ?_; (simp only [List.length_map, List.length_set, Yjn]; omega)) | (refine Ykf ?_; (first | omega | (simp only [std, Yi6]; omega) | grind)) | (refine Yjv ?_ rfl; (first | omega | (simp only [std, Yi6]; omega) | grind)) | (refine Yjm ?_ ?_; (first | omega | (simp only [std, Yi6]; omega) | grind); (first | grind [Y163 hm, Yhi, Yhh, Yhe])) | grind [Y163 hm, Yhi, Yhh, Yhe])
theorem Z5t (L : List Int) (n : Int) (h0 : 0 <= n) (h : n + L.length <= 100000000000000) (hm : Yhs mkI Yj3 L n = L)  : Z66 L n := Yhq Tryz.call99 Tryz.func99 (.l
 (Z36 L n) (Zc0 L n h0 h hm) [] [.s (li 0), .s (li n)] 0 (.t (.s (li (n + (L.length : Int)))) (.t (.s (li (-1 : Int))) .q))) (by
 dsimp only [Yhf, Z66, Yhl, Z36]
 with_reducible repeat' (first | apply And.intro | exact zR | (intro))
 all_goals (try simp only [std, Yi6, inj] at *)
 all_goals with_reducible and_intros
 all_goals try first | exact z | ((first | refine Yki ?_ | refine Ylc ?_ rfl); (first | omega | (simp only [std, Yi6]; omega) | grind)) | (refine Yke ?_; (simp only [List.length_map, List.length_set, Yjn]; omega)) | (refine Ykf ?_; (first | omega | (simp only [std, Yi6]; omega) | grind)) | (refine Yjv ?_ rfl; (first | omega | (simp only [std, Yi6]; omega) | grind)) | (refine Yjm ?_ ?_; (first | omega | (simp only [std, Yi6]; omega) | grind); (first | grind [Yhi, Yhh, Yhe])) | grind [Yhi, Yhh, Yhe])
abbrev Z5 (x : YS) (n : Int) : Ct := ⟨55, [], [ll (x.items.map Yh9), li n], [], .sv (li (n + Yhb cY x.items))⟩
def Z1b (x : YS) (n : Int) : Lp Nat := .mk 59 0 (fun x_1 => [(0, ll (x.items.map Yh9)), (1, hs x_1 1), (5, hs x_1 0)]) (fun x => []) (fun k => [.s (li
 (k : Int)), .s (li (n + (↑(Yhb cY (x.items.take k)) : Int)))]) (fun k => k <= x.items.length /\ x.items.length <= 9223372036854775807) (fun k => x.items.length - k) [.mk True
 (.exit 0) (fun x => [(1, hs x 0)]) (fun x => []) [.s (li (n + (↑(Yhb cY x.items) : Int)))], .mk False .ret (fun x => [(4, hs x 0)]) (fun x => []) [.s (li (-1 : Int))]]
theorem Z8u (x : YS) (n : Int) (h0 : 0 <= n) (h : n + (↑(Yhb cY x.items) : Int) <= 100000000000000) (hm : Yhs mkY cY x.items n = x.items) (ih : ∀ (z : YS),
 z ∈ x.items -> ∀ (n : Int), 0 <= n -> n + (↑(Yhb cY z.items) : Int) <= 100000000000000 -> Yhs mkY cY z.items n = z.items -> OK (Z5 z n)) : Lp.Sem Tryz.prog (Yhp
 Tryz.f55 0) (Z1b x n) := Yhz (fun k => .z Yh9 x.items (.i ((k : Int) < (↑(x.items.map Yh9).length : Int)) (.x (k : Int) (x.items.map Yh9)
 (Yhg (x.items.getD k default)) (.i ((x.items.getD k default).kind ≠ n + (↑(Yhb cY (x.items.take k)) : Int)) (.o 1 [] [.s (li (-1 : Int))]) (.r (n + (↑(Yhb cY
 (x.items.take k)) : Int) + 1) (.x (k : Int) (x.items.map Yh9) (Yhg (x.items.getD k default)) (.i ((x.items.getD k default).number ≠ n + (↑(Yhb cY (List.take k
 x.items)) : Int) + 1) (.o 1 [] [.s (li (-1 : Int))]) (.r (n + (↑(Yhb cY (x.items.take k)) : Int) + 1 + 1) (.w (.draw []) (.x (k : Int) (x.items.map Yh9) (Yhg
 (x.items.getD k default)) (.d [.rd] (Z2c (n + (↑(Yhb cY (x.items.take k)) : Int) + 1 + 1)) (.i ((x.items.getD k default).text.data.toList ≠ (Yj2 (n + (↑(Yhb cY
 (x.items.take k)) : Int) + 1 + 1)).data.toList) (.o 1 [] [.s (li (-1 : Int))]) (.r (n + (↑(Yhb cY (x.items.take k)) : Int) + 1 + 1 + 1) (.x (k : Int) (List.map
 Yh9 x.items) (Yhg (x.items.getD k default)) (.d [.rd, .rd] (Z66 (x.items.getD k default).scopes (n + (↑(Yhb cY (x.items.take k)) : Int) + 1 + 1 + 1)) (.i
 (n + (↑(Yhb cY (x.items.take k)) : Int) + 1 + 1 + 1 + (↑(x.items.getD k default).scopes.length : Int) < 0) (.o 1 [] [.s (li (-1 : Int))]) (.x (k : Int) (List.map Yh9
 x.items) (Yhg (x.items.getD k default)) (.d [.rd, .rd] (Z5 (x.items.getD k default) (n + (↑(Yhb cY (x.items.take k)) : Int) + 1 + 1 + 1 + (↑(x.items.getD k
 default).scopes.length : Int))) (.i (n + (↑(Yhb cY (x.items.take k)) : Int) + 1 + 1 + 1 + (↑(x.items.getD k default).scopes.length : Int) + (↑(Yhb cY (x.items.getD k
 default).items) : Int) < 0) (.o 1 [] [.s (li (-1 : Int))]) (.r ((k : Int) + 1) (.g [] (k + 1) [.s (li ((k : Int) + 1)), .s (li (n + (↑(Yhb cY (x.items.take k)) : Int) + 1
 + 1 + 1 + (↑(x.items.getD k default).scopes.length : Int) + (↑(Yhb cY (x.items.getD k default).items) : Int)))]))))))))))))))))))) (.o 0 [] [.s (li (n + (↑(Yhb cY (List.take k
 x.items)) : Int)))]))) (by
 intro k h; try dsimp only [Yhf, Yhl, Z1b] at h ⊢
 have g0 := Yiz cY x.items (k + 1)
 have g1 := fun hk : k < x.items.length => Y1gx (Y13l hm hk)
 with_reducible repeat' (first | apply And.intro | exact zR | exact ih | (intro) | apply Zb | apply Z5t | apply ih)
 all_goals (try simp only [std, Yi6, inj] at *)
 all_goals with_reducible and_intros
 all_goals try with_reducible first | apply Zb | apply Z5t | apply ih
 all_goals try first | exact z | ((first | refine Yki ?_ | refine Ylc ?_ rfl); (first | omega | (simp only [std, Yi6]; omega) | grind)) | (refine Yke ?_; (simp only [List.length_map, List.length_set, Yjn]; omega)) | (refine Ykf ?_; (first | omega | (simp only [std, Yi6]; omega) | grind)) | (refine Yjv ?_ rfl; (first | omega | (simp only [std, Yi6]; omega) | grind)) | (refine Yjm ?_ ?_; (first | omega | (simp only [std, Yi6]; omega) | grind); (first | grind [Yjj, Yhj, Yq0, Yhi, Yhh, Yhe])) | grind [Yjj, Yhj, Yq0, Yhi, Yhh, Yhe])
theorem Za8 (x : YS) (n : Int) (h0 : 0 <= n) (h : n + Yhb cY x.items <= 100000000000000) (hm : Yhs mkY cY x.items n = x.items) (ih : ∀ z ∈ x.items, ∀ (n : Int) (h0
 : 0 <= n) (h : n + Yhb cY z.items <= 100000000000000) (hm : Yhs mkY cY z.items n = z.items), Z5 z n)  : Z5 x n := Yhq Tryz.call55 Tryz.func55 (.l
 (Z1b x n) (Z8u x n h0 h hm ih) [] [.s (li 0), .s (li n)] 0 (.t (.s (li (n + (↑(Yhb cY x.items) : Int)))) (.t (.s (li (-1 : Int))) .q))) (by
 dsimp only [Yhf, Z5, Yhl, Z1b]
 have gl := Y1c8 x.items
 with_reducible repeat' (first | apply And.intro | exact zR | exact ih | (intro) | apply Zb | apply Z5t)
 all_goals (try simp only [std, Yi6, inj] at *)
 all_goals with_reducible and_intros
 all_goals try with_reducible first | apply Zb | apply Z5t | apply ih
 all_goals try first | exact z | ((first | refine Yki ?_ | refine Ylc ?_ rfl); (first | omega | (simp only [std, Yi6]; omega) | grind)) | (refine Yke ?_; (simp only [List.length_map, List.length_set, Yjn]; omega)) | (refine Ykf ?_; (first | omega | (simp only [std, Yi6]; omega) | grind)) | (refine Yjv ?_ rfl; (first | omega | (simp only [std, Yi6]; omega) | grind)) | (refine Yjm ?_ ?_; (first | omega | (simp only [std, Yi6]; omega) | grind); (first | grind [Yk0, Yhi, Yhh, Yhe])) | grind [Yk0, Yhi, Yhh, Yhe])
theorem Z52 (x : YS) : ∀ (n : Int) (h0 : 0 <= n) (h : n + Yhb cY x.items <= 100000000000000) (hm : Yhs mkY cY x.items n = x.items), Z5 x n := YS.ind (P := fun x => ∀ (n : Int) (h0 : 0 <= n) (h : n + Yhb cY x.items <= 100000000000000) (hm : Yhs mkY cY x.items n = x.items), Z5 x n) (fun x ih n h0 h hm => Za8 x n h0 h hm ih) x
theorem Z7a (L : List YS) (n : Int) (h0 : 0 <= n) (h : n + Yhb cY L <= 100000000000000) (hm : Yhs mkY cY L n = L) : Z5 { (default : YS) with items := L } n := Z52 { (default : YS) with items := L } n h0 h hm
set_option maxHeartbeats 4000000
abbrev Z5u (L : List Int) (left : Int) : Ct := ⟨61, [], [ll (L.map Yhd), li left], [], .sv (li (sz L.length left))⟩
theorem Z7x (L : List Int) (left : Int) (h0 : 0 <= left) (h : left <= 2147483647)  : Z5u L left := Yhq Tryz.call61 Tryz.func61 (.z Yhd L (.r (left - (↑(List.map Yhd
 L).length : Int)) (.i (left - (↑(L.map Yhd).length : Int) < 0) (.s (li (-1 : Int))) (.s (li (left - (↑(L.map Yhd).length : Int))))))) (by
 dsimp only [Yhf, Z5u]
 with_reducible repeat' (first | apply And.intro | exact zR | (intro))
 all_goals ((try simp only [std, inj] at *); with_reducible and_intros)
 all_goals try first | exact z | grind [sz, Yhi, Yhh, Yhe])
abbrev Z13 (L : List YS) (left : Int) : Ct := ⟨36, [], [ll (L.map Yh9), li left], [], .sv (li (sz (L.length + Yhb wY L) left))⟩
abbrev Zh (x : YS) (left : Int) : Ct := ⟨12, [], [Yhu x, li left], [], .sv (li (sz (wY x) left))⟩
def Z2i (L : List YS) (left : Int) : Lp (Nat × Int) := .mk 27 0 (fun x => [(0, ll (L.map Yh9)), (1, hs x 1), (5, hs x 0)]) (fun x => []) (fun k => [.s (li
 (k.fst : Int)), .s (li k.snd)]) (fun k => k.fst <= L.length /\ L.length <= 9223372036854775807 /\ 0 <= k.snd /\ k.snd <= left /\ sz (Yhb wY (List.drop k.fst L)) k.snd = sz (L.length +
 Yhb wY L) left) (fun k => L.length - k.fst) [.mk (0 <= sz (L.length + Yhb wY L) left) (.exit 0) (fun x => [(1, hs x 0)]) (fun x => []) [.s (li (sz (L.length + Yhb wY L)
 left))], .mk (sz (L.length + Yhb wY L) left = (-1 : Int)) .ret (fun x => [(4, hs x 0)]) (fun x => []) [.s (li (-1 : Int))]]
theorem Zaq (L : List YS) (left : Int) (h0 : 0 <= left) (h : left <= 2147483647) (ih : ∀ (x : YS), x ∈ L -> ∀ (left : Int), 0 <= left -> left <= 2147483647 -> OK
 (Zh x left)) : Lp.Sem Tryz.prog (Yhp Tryz.f36 0) (Z2i L left) := Yhz (fun k => .z Yh9 L (.i ((k.fst : Int) < (↑(L.map Yh9).length : Int))
 (.x (k.fst : Int) (L.map Yh9) (Yhg (L.getD k.fst default)) (.d [.rd, .rd] (Zh (L.getD k.fst default) k.snd) (.i (sz (wY (L.getD k.fst default)) k.snd < 0)
 (.o 1 [] [.s (li (-1 : Int))]) (.r ((k.fst : Int) + 1) (.g [] (k.fst + 1, sz (wY (L.getD k.fst default)) k.snd) [.s (li ((k.fst : Int) + 1)), .s (li (sz (wY (L.getD k.fst
 default)) k.snd))]))))) (.o 0 [] [.s (li k.snd)]))) (by
 intro k h; try dsimp only [Yhf, Yhl, Z2i] at h ⊢
 obtain ⟨i, n⟩ := k
 simp only at *
 with_reducible repeat' (first | apply And.intro | exact zR | exact ih | (intro) | apply ih)
 all_goals ((try simp only [std, inj] at *); with_reducible and_intros)
 all_goals try with_reducible first | apply ih
 all_goals try first | exact z | grind [Yiu, Yhb, sz, Yhj, Yhi, Yhh, Yhe])
theorem Z4t (L : List YS) (left : Int) (h0 : 0 <= left) (h : left <= 2147483647) (ih : ∀ x ∈ L, ∀ (left : Int) (h0 : 0 <= left) (h : left <= 2147483647), Zh x
 left)  : Z13 L left := Yhq Tryz.call36 Tryz.func36 (.z Yh9 L (.r (left - (↑(L.map Yh9).length : Int)) (.i (left - (↑(L.map Yh9).length : Int) < 0)
 (.s (li (-1 : Int))) (.l (Z2i L left) (Zaq L left h0 h ih) [] [.s (li 0), .s (li (left - (↑(L.map Yh9).length : Int)))] (0, left - (↑L.length :
 Int)) (.t (.s (li (sz (L.length + Yhb wY L) left))) (.t (.s (li (-1 : Int))) .q)))))) (by
 dsimp only [Yhf, Z13, Yhl, Z2i]
 with_reducible repeat' (first | apply And.intro | exact zR | exact ih | (intro))
 all_goals ((try simp only [std, inj] at *); with_reducible and_intros)
 all_goals try with_reducible first | apply ih
 all_goals try first | exact z | grind [sz, Yhi, Yhh, Yhe])
theorem Zd8 (x : YS) (left : Int) (h0 : 0 <= left) (h : left <= 2147483647) (ih : ∀ z ∈ x.items, ∀ (left : Int) (h0 : 0 <= left) (h : left <= 2147483647), Zh z
 left)  : Zh x left := Yhq Tryz.call12 Tryz.func12 (.h (x.text.data.toList.length <= 9223372036854775807) (.r (left - (x.text.data.toList.length : Int)) (.i (left -
 (x.text.data.toList.length : Int) < 0) (.s (li (-1 : Int))) (.d [.rd, .rd] (Z5u x.scopes (left - (x.text.data.toList.length : Int))) (.i (sz x.scopes.length (left -
 (x.text.data.toList.length : Int)) < 0) (.s (li (-1 : Int))) (.d [.rd, .rd] (Z13 x.items (sz x.scopes.length (left - (x.text.data.toList.length : Int)))) (.i (sz
 (x.items.length + Yhb wY x.items) (sz x.scopes.length (left - (x.text.data.toList.length : Int))) < 0) (.s (li (-1 : Int))) (.s (li (sz (x.items.length + Yhb wY x.items) (sz
 x.scopes.length (left - (x.text.data.toList.length : Int))))))))))))) (by
 dsimp only [Yhf, Zh]
 with_reducible repeat' (first | apply And.intro | exact zR | exact ih | (intro) | apply Z7x | apply Z4t | apply ih)
 all_goals ((try simp only [std, inj] at *); with_reducible and_intros)
 all_goals try with_reducible first | apply Z7x | apply Z4t | apply ih
 all_goals try first | exact z | grind [Yj6, sz, wS, Yhi, Yhh, Yhe])
theorem Z5v (x : YS) : ∀ (left : Int) (h0 : 0 <= left) (h : left <= 2147483647), Zh x left := YS.ind (P := fun x => ∀ (left : Int) (h0 : 0 <= left) (h : left <= 2147483647), Zh x left) (fun x ih left h0 h => Zd8 x left h0 h ih) x
abbrev Z53 (x : YB) (left : Int) : Ct := ⟨102, [], [Ym5 x, li left], [], .sv (li (sz (wB x) left))⟩
theorem Z4u (x : YB) (left : Int) (h0 : 0 <= left) (h : left <= 2147483647)  : Z53 x left := Yhq Tryz.call102 Tryz.func102 (.h (x.text.data.toList.length <=
 9223372036854775807) (.r (left - (x.text.data.toList.length : Int)) (.i (left - (x.text.data.toList.length : Int) < 0) (.s (li (-1 : Int))) (.d [.rd, .rd] (Z5u x.scopes
 (left - (x.text.data.toList.length : Int))) (.i (sz x.scopes.length (left - (x.text.data.toList.length : Int)) < 0) (.s (li (-1 : Int))) (.s (li (sz x.scopes.length (left -
 (x.text.data.toList.length : Int)))))))))) (by
 dsimp only [Yhf, Z53]
 with_reducible repeat' (first | apply And.intro | exact zR | (intro) | apply Z7x)
 all_goals ((try simp only [std, inj] at *); with_reducible and_intros)
 all_goals try with_reducible first | apply Z7x
 all_goals try first | exact z | grind [Ysh, sz, wS, Yhi, Yhh, Yhe])
abbrev Z45 (L : List YB) (left : Int) : Ct := ⟨35, [], [ll (L.map Yhc), li left], [], .sv (li (sz (L.length + Yhb wB L) left))⟩
def Z1y (L : List YB) (left : Int) : Lp (Nat × Int) := .mk 27 0 (fun x => [(0, ll (L.map Yhc)), (1, hs x 1), (5, hs x 0)]) (fun x => []) (fun k => [.s
 (li (k.fst : Int)), .s (li k.snd)]) (fun k => k.fst <= L.length /\ L.length <= 9223372036854775807 /\ 0 <= k.snd /\ k.snd <= left /\ sz (Yhb wB (List.drop k.fst L)) k.snd = sz
 (L.length + Yhb wB L) left) (fun k => L.length - k.fst) [.mk (0 <= sz (L.length + Yhb wB L) left) (.exit 0) (fun x => [(1, hs x 0)]) (fun x => []) [.s (li (sz (L.length + Yhb
 wB L) left))], .mk (sz (L.length + Yhb wB L) left = (-1 : Int)) .ret (fun x => [(4, hs x 0)]) (fun x => []) [.s (li (-1 : Int))]]
theorem Za9 (L : List YB) (left : Int) (h0 : 0 <= left) (h : left <= 2147483647) : Lp.Sem Tryz.prog (Yhp Tryz.f35 0) (Z1y L left) := Yhz (fun k => .z
 Yhc L (.i ((k.fst : Int) < (↑(L.map Yhc).length : Int)) (.x (k.fst : Int) (L.map Yhc) (Yhx (L.getD k.fst default)) (.d [.rd, .rd] (Z53
 (L.getD k.fst default) k.snd) (.i (sz (wB (L.getD k.fst default)) k.snd < 0) (.o 1 [] [.s (li (-1 : Int))]) (.r ((k.fst : Int) + 1) (.g [] (k.fst + 1, sz (wB (L.getD k.fst
 default)) k.snd) [.s (li ((k.fst : Int) + 1)), .s (li (sz (wB (L.getD k.fst default)) k.snd))]))))) (.o 0 [] [.s (li k.snd)]))) (by
 intro k h; try dsimp only [Yhf, Yhl, Z1y] at h ⊢
 obtain ⟨i, n⟩ := k
 simp only at *
 with_reducible repeat' (first | apply And.intro | exact zR | (intro) | apply Z4u)
 all_goals ((try simp only [std, inj] at *); with_reducible and_intros)
 all_goals try with_reducible first | apply Z4u
 all_goals try first | exact z | grind [Yiu, Yhb, sz, Yhj, Yhi, Yhh, Yhe])
theorem Z8v (L : List YB) (left : Int) (h0 : 0 <= left) (h : left <= 2147483647)  : Z45 L left := Yhq Tryz.call35 Tryz.func35 (.z Yhc L (.r (left -
 (↑(L.map Yhc).length : Int)) (.i (left - (↑(L.map Yhc).length : Int) < 0) (.s (li (-1 : Int))) (.l (Z1y L left) (Za9 L left h0 h) []
 [.s (li 0), .s (li (left - (↑(L.map Yhc).length : Int)))] (0, left - (L.length : Int)) (.t (.s (li (sz (L.length + Yhb wB L) left))) (.t (.s (li (-1 : Int))) .q))))))
 (by
 dsimp only [Yhf, Z45, Yhl, Z1y]
 with_reducible repeat' (first | apply And.intro | exact zR | (intro) | apply Z4u)
 all_goals ((try simp only [std, inj] at *); with_reducible and_intros)
 all_goals try with_reducible first | apply Z4u
 all_goals try first | exact z | grind [sz, Yhi, Yhh, Yhe])
abbrev Z70 (x : YR) (left : Int) : Ct := ⟨13, [], [Ymf x, li left], [], .sv (li (sz (wR x) left))⟩
theorem Z6w (x : YR) (left : Int) (h0 : 0 <= left) (h : left <= 2147483647)  : Z70 x left := Yhq Tryz.call13 Tryz.func13 (.d [.rd, .rd] (Z13 x.literals
 left) (.i (sz (x.literals.length + Yhb wY x.literals) left < 0) (.s (li (-1 : Int))) (.d [.rd, .rd] (Z13 x.patterns (sz (x.literals.length + Yhb wY x.literals)
 left)) (.i (sz (x.patterns.length + Yhb wY x.patterns) (sz (x.literals.length + Yhb wY x.literals) left) < 0) (.s (li (-1 : Int))) (.d [.rd, .rd] (Z13 x.templates
 (sz (x.patterns.length + Yhb wY x.patterns) (sz (x.literals.length + Yhb wY x.literals) left))) (.i (sz (x.templates.length + Yhb wY x.templates) (sz (x.patterns.length +
 Yhb wY x.patterns) (sz (x.literals.length + Yhb wY x.literals) left)) < 0) (.s (li (-1 : Int))) (.s (li (sz (x.templates.length + Yhb wY x.templates) (sz (x.patterns.length
 + Yhb wY x.patterns) (sz (x.literals.length + Yhb wY x.literals) left))))))))))) (by
 dsimp only [Yhf, Z70]
 with_reducible repeat' (first | apply And.intro | exact zR | (intro) | apply Z4t | apply Z5v)
 all_goals ((try simp only [std, inj] at *); with_reducible and_intros)
 all_goals try with_reducible first | apply Z4t | apply Z5v
 all_goals try first | exact z | grind [Ynp, sz, wS, Yhi, Yhh, Yhe])
abbrev Z67 (L : List YR) (left : Int) : Ct := ⟨60, [], [ll (L.map Yhm), li left], [], .sv (li (sz (L.length + Yhb wR L) left))⟩
def Z37 (L : List YR) (left : Int) : Lp (Nat × Int) := .mk 27 0 (fun x => [(0, ll (L.map Yhm)), (1, hs x 1), (5, hs x 0)]) (fun x => []) (fun k => [.s (li
 (k.fst : Int)), .s (li k.snd)]) (fun k => k.fst <= L.length /\ L.length <= 9223372036854775807 /\ 0 <= k.snd /\ k.snd <= left /\ sz (Yhb wR (List.drop k.fst L)) k.snd = sz (L.length +
 Yhb wR L) left) (fun k => L.length - k.fst) [.mk (0 <= sz (L.length + Yhb wR L) left) (.exit 0) (fun x => [(1, hs x 0)]) (fun x => []) [.s (li (sz (L.length + Yhb wR L)
 left))], .mk (sz (L.length + Yhb wR L) left = (-1 : Int)) .ret (fun x => [(4, hs x 0)]) (fun x => []) [.s (li (-1 : Int))]]
theorem Zc1 (L : List YR) (left : Int) (h0 : 0 <= left) (h : left <= 2147483647) : Lp.Sem Tryz.prog (Yhp Tryz.f60 0) (Z37 L left) := Yhz (fun k => .z
 Yhm L (.i ((k.fst : Int) < (↑(L.map Yhm).length : Int)) (.x (k.fst : Int) (L.map Yhm) (Yix (L.getD k.fst default)) (.d [.rd, .rd] (Z70 (L.getD
 k.fst default) k.snd) (.i (sz (wR (L.getD k.fst default)) k.snd < 0) (.o 1 [] [.s (li (-1 : Int))]) (.r ((k.fst : Int) + 1) (.g [] (k.fst + 1, sz (wR (L.getD k.fst default))
 k.snd) [.s (li ((k.fst : Int) + 1)), .s (li (sz (wR (L.getD k.fst default)) k.snd))]))))) (.o 0 [] [.s (li k.snd)]))) (by
 intro k h; try dsimp only [Yhf, Yhl, Z37] at h ⊢
 obtain ⟨i, n⟩ := k
 simp only at *
 with_reducible repeat' (first | apply And.intro | exact zR | (intro) | apply Z6w)
 all_goals ((try simp only [std, inj] at *); with_reducible and_intros)
 all_goals try with_reducible first | apply Z6w
 all_goals try first | exact z | grind [Yiu, Yhb, sz, Yhj, Yhi, Yhh, Yhe])
theorem Zaa (L : List YR) (left : Int) (h0 : 0 <= left) (h : left <= 2147483647)  : Z67 L left := Yhq Tryz.call60 Tryz.func60 (.z Yhm L (.r (left - (↑(List.map
 Yhm L).length : Int)) (.i (left - (↑(L.map Yhm).length : Int) < 0) (.s (li (-1 : Int))) (.l (Z37 L left) (Zc1 L left h0 h) [] [.s (li 0), .s (li
 (left - (↑(L.map Yhm).length : Int)))] (0, left - (L.length : Int)) (.t (.s (li (sz (L.length + Yhb wR L) left))) (.t (.s (li (-1 : Int))) .q)))))) (by
 dsimp only [Yhf, Z67, Yhl, Z37]
 with_reducible repeat' (first | apply And.intro | exact zR | (intro) | apply Z6w)
 all_goals ((try simp only [std, inj] at *); with_reducible and_intros)
 all_goals try with_reducible first | apply Z6w
 all_goals try first | exact z | grind [sz, Yhi, Yhh, Yhe])
abbrev Z46 (x : YE) (left : Int) : Ct := ⟨11, [], [Yk1 x, li left], [], .sv (li (sz (wX x) left))⟩
theorem Z8w (x : YE) (left : Int) (h0 : 0 <= left) (h : left <= 2147483647)  : Z46 x left := Yhq Tryz.call11 Tryz.func11 (.d [.rd, .rd] (Z45
 x.bindings left) (.i (sz (x.bindings.length + Yhb wB x.bindings) left < 0) (.s (li (-1 : Int))) (.d [.rd, .rd] (Z67 x.macros (sz (x.bindings.length + Yhb wB
 x.bindings) left)) (.i (sz (x.macros.length + Yhb wR x.macros) (sz (x.bindings.length + Yhb wB x.bindings) left) < 0) (.s (li (-1 : Int))) (.s (li (sz (x.macros.length + Yhb
 wR x.macros) (sz (x.bindings.length + Yhb wB x.bindings) left)))))))) (by
 dsimp only [Yhf, Z46]
 with_reducible repeat' (first | apply And.intro | exact zR | (intro) | apply Z8v | apply Zaa)
 all_goals ((try simp only [std, inj] at *); with_reducible and_intros)
 all_goals try with_reducible first | apply Z8v | apply Zaa
 all_goals try first | exact z | grind [Yli, sz, wS, Yhi, Yhh, Yhe])
set_option maxHeartbeats 4000000
abbrev Z5w (L : List Int) : Ct := ⟨69, [], [ll (L.map Yhd)], [.arr true 1 (L.map Yhd)], .sv (.one (.ref 0))⟩
def Z4v (L : List Int) : Lp Nat := .mk 22 0 (fun x => [(0, ll (L.map Yhd)), (3, .one (.ref 0)), (4, hs x 0)]) (fun x => [ho x 1]) (fun k => [.s (li (k : Int)),
 .o (.arr true 1 ((Yih L k).map Yhd))]) (fun k => k <= L.length /\ L.length <= 9223372036854775807) (fun k => L.length - k) [.mk True (.exit 0) (fun x => [(3, .one
 (.ref 0))]) (fun x => [ho x 0]) [.o (.arr true 1 (L.map Yhd))]]
theorem Zdv (L : List Int) (h : L.length <= 1048576) : Lp.Sem Tryz.prog (Yhp Tryz.f69 0) (Z4v L) := Yhz (fun k => .z Yhd L (.i ((k : Int) < (↑(List.map Yhd
 L).length : Int)) (.x (k : Int) (L.map Yhd) [cI (L.getD k 0)] (.p (0 <= (k : Int) /\ (k : Int).toNat < ((Yih L k).map Yhd).length) (.w (.cells (Yhd ((Yih L
 k).getD (k : Int).toNat default))) (.p (((Yih L k).map Yhd)[(k : Int).toNat]? = some [cI ((Yih L k).getD (k : Int).toNat 0)]) (.r ((k : Int) + 1) (.g [0] (k + 1)
 [.s (li ((k : Int) + 1)), .o (.arr true 1 (((Yih L k).map Yhd).set (k : Int).toNat [cI (L.getD k 0)]))])))))) (.o 0 [0] [.o (.arr true 1 ((Yih L
 k).map Yhd))]))) (by
 intro k h; try dsimp only [Yhf, Yhl, Z4v] at h ⊢
 with_reducible repeat' (first | apply And.intro | exact zR | (intro))
 all_goals ((try simp only [std, inj] at *); with_reducible and_intros)
 all_goals try first | exact z | exact zF | grind [Yq6, Yhi, Yhh, Yhe])
theorem Z7y (L : List Int) (h : L.length <= 1048576)  : Z5w L := Yhq Tryz.call69 Tryz.func69 (.z Yhd L (.p (0 <= (↑(L.map Yhd).length : Int) /\ 8 * (↑(List.map Yhd
 L).length : Int).toNat <= 281474976710656) (.l (Z4v L) (Zdv L h) [0] [.s (li 0), .o (.arr true 1 (List.replicate (↑(L.map Yhd).length : Int).toNat [cI 0]))]
 0 (.t (.f [0] [.arr true 1 (L.map Yhd)] (.sv (.one (.ref 0)))) .q)))) (by
 dsimp only [Yhf, Z5w, Yhl, Z4v]
 with_reducible repeat' (first | apply And.intro | exact zR | (intro))
 all_goals ((try simp only [std, inj] at *); with_reducible and_intros)
 all_goals try first | exact z | exact zF | grind [Yhi, Yhh, Yhe])
abbrev Z14 (L : List YS) : Ct := ⟨39, [], [ll (L.map Yh9)], [.arr true 5 (L.map Yh9)], .sv (.one (.ref 0))⟩
abbrev Z6 (x : YS) : Ct := ⟨16, [], [Yhu x], Yk5 x, .sv (Yjx x 0)⟩
def Z2j (L : List YS) : Lp Nat := .mk 23 0 (fun x => [(0, ll (L.map Yh9)), (3, .one (.ref 0)), (4, hs x 0)]) (fun x => [ho x 1]) (fun k => [.s (li (↑k :
 Int)), .o (.arr true 5 ((Yih L k).map Yh9))]) (fun k => k <= L.length /\ L.length <= 9223372036854775807) (fun k => L.length - k) [.mk True (.exit 0) (fun x => [(3,
 .one (.ref 0))]) (fun x => [ho x 0]) [.o (.arr true 5 (L.map Yh9))]]
theorem Zar (L : List YS) (h : L.length + Yhb wY L <= 1048576) (ih : ∀ (x : YS), x ∈ L -> wY x <= 1048576 -> OK (Z6 x)) : Lp.Sem Tryz.prog (Yhp
 Tryz.f39 0) (Z2j L) := Yhz (fun k => .z Yh9 L (.i ((k : Int) < (↑(L.map Yh9).length : Int)) (.x (k : Int) (L.map Yh9) (Yhg (L.getD k
 default)) (.d [.rd] (Z6 (L.getD k default)) (.p (0 <= (k : Int) /\ (k : Int).toNat < ((Yih L k).map Yh9).length) (.w (.cells (Yhg ((Yih L k).getD (↑k
 : Int).toNat default))) (.p (((Yih L k).map Yh9)[(k : Int).toNat]? = some (Yhg ((Yih L k).getD (k : Int).toNat default))) (.r ((k : Int) + 1) (.g [0] (k + 1)
 [.s (li ((k : Int) + 1)), .o (.arr true 5 (((Yih L k).map Yh9).set (k : Int).toNat (Yhg (L.getD k default))))]))))))) (.o 0 [0] [.o (.arr true 5 (List.map
 Yh9 (Yih L k)))]))) (by
 intro k h; try dsimp only [Yhf, Yhl, Z2j] at h ⊢
 with_reducible repeat' (first | apply And.intro | exact zR | exact ih | (intro) | apply ih)
 all_goals ((try simp only [std, inj] at *); with_reducible and_intros)
 all_goals try with_reducible first | apply ih
 all_goals try first | exact z | exact zF | grind [Yq6, Yhj, Yi4, Yhi, Yhh, Yhe])
theorem Z4w (L : List YS) (h : L.length + Yhb wY L <= 1048576) (ih : ∀ x ∈ L, ∀ (h : wY x <= 1048576), Z6 x)  : Z14 L := Yhq Tryz.call39 Tryz.func39
 (.z Yh9 L (.p (0 <= (↑(L.map Yh9).length : Int) /\ 80 * (↑(L.map Yh9).length : Int).toNat <= 281474976710656) (.l (Z2j L) (Zar L h ih) [0]
 [.s (li 0), .o (.arr true 5 (List.replicate (↑(L.map Yh9).length : Int).toNat [cI 0, cI 0, cS (ByteArray.mk #[]), .list [], .list []]))] 0 (.t (.f [0] [.arr
 true 5 (L.map Yh9)] (.sv (.one (.ref 0)))) .q)))) (by
 dsimp only [Yhf, Z14, Yhl, Z2j]
 with_reducible repeat' (first | apply And.intro | exact zR | exact ih | (intro))
 all_goals ((try simp only [std, inj] at *); with_reducible and_intros)
 all_goals try with_reducible first | apply ih
 all_goals try first | exact z | exact zF | grind [Yhi, Yhh, Yhe])
theorem Zd9 (x : YS) (h : wY x <= 1048576) (ih : ∀ z ∈ x.items, ∀ (h : wY z <= 1048576), Z6 z)  : Z6 x := Yhq Tryz.call16 Tryz.func16 (.d [.rd]
 (Z5w x.scopes) (.d [.rd] (Z14 x.items) (.f [3, 4] [.arr true 1 (x.scopes.map Yhd), .arr true 5 (x.items.map Yh9)] (.sv (.agg [vI x.kind, vI
 x.number, vS x.text, .ref 0, .ref 1]))))) (by
 dsimp only [Yhf, Z6]
 with_reducible repeat' (first | apply And.intro | exact zR | exact ih | (intro) | apply Z7y | apply Z4w | apply ih)
 all_goals ((try simp only [std, inj] at *); with_reducible and_intros)
 all_goals try with_reducible first | apply Z7y | apply Z4w | apply ih
 all_goals try first | exact z | exact zF | grind [Yj6, wS, Yhi, Yhh, Yhe])
theorem Z5x (x : YS) : ∀ (h : wY x <= 1048576), Z6 x := YS.ind (P := fun x => ∀ (h : wY x <= 1048576), Z6 x) (fun x ih h => Zd9 x h ih) x
abbrev Z54 (x : YB) : Ct := ⟨107, [], [Ym5 x], Yx2 x, .sv (Ywn x 0)⟩
theorem Z4x (x : YB) (h : wB x <= 1048576)  : Z54 x := Yhq Tryz.call107 Tryz.func107 (.d [.rd] (Z5w x.scopes) (.f [3] [.arr true 1 (List.map Yhd
 x.scopes)] (.sv (.agg [vS x.text, .ref 0, vI x.kind, vI x.number])))) (by
 dsimp only [Yhf, Z54]
 with_reducible repeat' (first | apply And.intro | exact zR | (intro) | apply Z7y)
 all_goals ((try simp only [std, inj] at *); with_reducible and_intros)
 all_goals try with_reducible first | apply Z7y
 all_goals try first | exact z | exact zF | grind [Ysh, wS, Yhi, Yhh, Yhe])
abbrev Z47 (L : List YB) : Ct := ⟨38, [], [ll (L.map Yhc)], [.arr true 4 (L.map Yhc)], .sv (.one (.ref 0))⟩
def Z1z (L : List YB) : Lp Nat := .mk 23 0 (fun x => [(0, ll (L.map Yhc)), (3, .one (.ref 0)), (4, hs x 0)]) (fun x => [ho x 1]) (fun k => [.s (li
 (k : Int)), .o (.arr true 4 ((Yih L k).map Yhc))]) (fun k => k <= L.length /\ L.length <= 9223372036854775807) (fun k => L.length - k) [.mk True (.exit 0) (fun x =>
 [(3, .one (.ref 0))]) (fun x => [ho x 0]) [.o (.arr true 4 (L.map Yhc))]]
theorem Zab (L : List YB) (h : L.length + Yhb wB L <= 1048576) : Lp.Sem Tryz.prog (Yhp Tryz.f38 0) (Z1z L) := Yhz (fun k => .z Yhc L (.i ((↑k
 : Int) < (↑(L.map Yhc).length : Int)) (.x (k : Int) (L.map Yhc) (Yhx (L.getD k default)) (.d [.rd] (Z54 (L.getD k default)) (.p (0 <= (k : Int)
 /\ (k : Int).toNat < ((Yih L k).map Yhc).length) (.w (.cells (Yhx ((Yih L k).getD (k : Int).toNat default))) (.p (((Yih L k).map Yhc)[(↑k :
 Int).toNat]? = some (Yhx ((Yih L k).getD (k : Int).toNat default))) (.r ((k : Int) + 1) (.g [0] (k + 1) [.s (li ((k : Int) + 1)), .o (.arr true 4 ((List.map Yhc
 (Yih L k)).set (k : Int).toNat (Yhx (L.getD k default))))]))))))) (.o 0 [0] [.o (.arr true 4 ((Yih L k).map Yhc))]))) (by
 intro k h; try dsimp only [Yhf, Yhl, Z1z] at h ⊢
 with_reducible repeat' (first | apply And.intro | exact zR | (intro) | apply Z4x)
 all_goals ((try simp only [std, inj] at *); with_reducible and_intros)
 all_goals try with_reducible first | apply Z4x
 all_goals try first | exact z | exact zF | grind [Yq6, Yhj, Yi4, Yhi, Yhh, Yhe])
theorem Z8x (L : List YB) (h : L.length + Yhb wB L <= 1048576)  : Z47 L := Yhq Tryz.call38 Tryz.func38 (.z Yhc L (.p (0 <= (↑(List.map Yhc
 L).length : Int) /\ 56 * (↑(L.map Yhc).length : Int).toNat <= 281474976710656) (.l (Z1z L) (Zab L h) [0] [.s (li 0), .o (.arr true 4
 (List.replicate (↑(L.map Yhc).length : Int).toNat [cS (ByteArray.mk #[]), .list [], cI 0, cI 0]))] 0 (.t (.f [0] [.arr true 4 (L.map Yhc)] (.sv (.one
 (.ref 0)))) .q)))) (by
 dsimp only [Yhf, Z47, Yhl, Z1z]
 with_reducible repeat' (first | apply And.intro | exact zR | (intro) | apply Z4x)
 all_goals ((try simp only [std, inj] at *); with_reducible and_intros)
 all_goals try with_reducible first | apply Z4x
 all_goals try first | exact z | exact zF | grind [Yhi, Yhh, Yhe])
abbrev Z71 (x : YR) : Ct := ⟨17, [], [Ymf x], Y13z x, .sv (Y12n x 0)⟩
theorem Z6x (x : YR) (h : wR x <= 1048576)  : Z71 x := Yhq Tryz.call17 Tryz.func17 (.d [.rd] (Z14 x.literals) (.d [.rd] (Z14 x.patterns) (.d
 [.rd] (Z14 x.templates) (.f [3, 4, 5] [.arr true 5 (x.literals.map Yh9), .arr true 5 (x.patterns.map Yh9), .arr true 5 (List.map Yh9
 x.templates)] (.sv (.agg [.ref 0, .ref 1, .ref 2])))))) (by
 dsimp only [Yhf, Z71]
 with_reducible repeat' (first | apply And.intro | exact zR | (intro) | apply Z4w | apply Z5x)
 all_goals ((try simp only [std, inj] at *); with_reducible and_intros)
 all_goals try with_reducible first | apply Z4w | apply Z5x
 all_goals try first | exact z | exact zF | grind [Ynp, wS, Yhi, Yhh, Yhe])
abbrev Z68 (L : List YR) : Ct := ⟨68, [], [ll (L.map Yhm)], [.arr true 3 (L.map Yhm)], .sv (.one (.ref 0))⟩
def Z38 (L : List YR) : Lp Nat := .mk 23 0 (fun x => [(0, ll (L.map Yhm)), (3, .one (.ref 0)), (4, hs x 0)]) (fun x => [ho x 1]) (fun k => [.s (li (↑k :
 Int)), .o (.arr true 3 ((Yih L k).map Yhm))]) (fun k => k <= L.length /\ L.length <= 9223372036854775807) (fun k => L.length - k) [.mk True (.exit 0) (fun x => [(3,
 .one (.ref 0))]) (fun x => [ho x 0]) [.o (.arr true 3 (L.map Yhm))]]
theorem Zc2 (L : List YR) (h : L.length + Yhb wR L <= 1048576) : Lp.Sem Tryz.prog (Yhp Tryz.f68 0) (Z38 L) := Yhz (fun k => .z Yhm L (.i ((k : Int)
 < (↑(L.map Yhm).length : Int)) (.x (k : Int) (L.map Yhm) (Yix (L.getD k default)) (.d [.rd] (Z71 (L.getD k default)) (.p (0 <= (k : Int) /\ (↑k :
 Int).toNat < ((Yih L k).map Yhm).length) (.w (.cells (Yix ((Yih L k).getD (k : Int).toNat default))) (.p (((Yih L k).map Yhm)[(k : Int).toNat]? =
 some (Yix ((Yih L k).getD (k : Int).toNat default))) (.r ((k : Int) + 1) (.g [0] (k + 1) [.s (li ((k : Int) + 1)), .o (.arr true 3 (((Yih L k).map Yhm).set
 (k : Int).toNat (Yix (L.getD k default))))]))))))) (.o 0 [0] [.o (.arr true 3 ((Yih L k).map Yhm))]))) (by
 intro k h; try dsimp only [Yhf, Yhl, Z38] at h ⊢
 with_reducible repeat' (first | apply And.intro | exact zR | (intro) | apply Z6x)
 all_goals ((try simp only [std, inj] at *); with_reducible and_intros)
 all_goals try with_reducible first | apply Z6x
 all_goals try first | exact z | exact zF | grind [Yq6, Yhj, Yi4, Yhi, Yhh, Yhe])
theorem Zac (L : List YR) (h : L.length + Yhb wR L <= 1048576)  : Z68 L := Yhq Tryz.call68 Tryz.func68 (.z Yhm L (.p (0 <= (↑(L.map Yhm).length : Int)
 /\ 72 * (↑(L.map Yhm).length : Int).toNat <= 281474976710656) (.l (Z38 L) (Zc2 L h) [0] [.s (li 0), .o (.arr true 3 (List.replicate (↑(List.map Yhm
 L).length : Int).toNat [.list [], .list [], .list []]))] 0 (.t (.f [0] [.arr true 3 (L.map Yhm)] (.sv (.one (.ref 0)))) .q)))) (by
 dsimp only [Yhf, Z68, Yhl, Z38]
 with_reducible repeat' (first | apply And.intro | exact zR | (intro) | apply Z6x)
 all_goals ((try simp only [std, inj] at *); with_reducible and_intros)
 all_goals try with_reducible first | apply Z6x
 all_goals try first | exact z | exact zF | grind [Yhi, Yhh, Yhe])
abbrev Z10 (x : YE) : Ct := ⟨15, [], [Yk1 x], Yu2 x, .sv (Yuz x 0)⟩
theorem Z8y (x : YE) (h : wX x <= 1048576)  : Z10 x := Yhq Tryz.call15 Tryz.func15 (.d [.rd] (Z47 x.bindings) (.d [.rd] (Z68 x.macros)
 (.f [3, 4] [.arr true 4 (x.bindings.map Yhc), .arr true 3 (x.macros.map Yhm)] (.sv (.agg [.ref 0, .ref 1, vI x.scope, vI x.vari, vI x.steps]))))) (by
 dsimp only [Yhf, Z10]
 with_reducible repeat' (first | apply And.intro | exact zR | (intro) | apply Z8x | apply Zac)
 all_goals ((try simp only [std, inj] at *); with_reducible and_intros)
 all_goals try with_reducible first | apply Z8x | apply Zac
 all_goals try first | exact z | exact zF | grind [Yli, wS, Yhi, Yhh, Yhe])
set_option maxHeartbeats 4000000
abbrev Zad (A : List Int) (B : List Int) : Ct := ⟨78, [], [ll (A.map Yhd), ll (B.map Yhd)], [], .sv (lb (decide (A = B)))⟩
def Z4y (A : List Int) (B : List Int) : Lp Nat := .mk 26 0 (fun x => [(0, ll (A.map Yhd)), (1, ll (B.map Yhd)), (5, hs x 0)]) (fun x => []) (fun k => [.s (li
 (k : Int))]) (fun k => k <= A.length /\ A.length <= 9223372036854775807 /\ A.length = B.length /\ A.take k = B.take k) (fun k => A.length - k) [.mk (A = B) (.exit 0) (fun x
 => []) (fun x => []) [], .mk (A ≠ B) .ret (fun x => [(4, hs x 0)]) (fun x => []) [.s (lb false)]]
theorem Zdw (A : List Int) (B : List Int) : Lp.Sem Tryz.prog (Yhp Tryz.f78 0) (Z4y A B) := Yhz (fun k => .z Yhd A (.i ((k : Int) < (↑(A.map Yhd).length
 : Int)) (.w (.draw []) (.x (k : Int) (A.map Yhd) [cI (A.getD k 0)] (.x (k : Int) (B.map Yhd) [cI (B.getD k 0)] (.i (A.getD k (0 : Int) ≠ B.getD k 0) (.o 1 [] [.s (lb
 false)]) (.r ((k : Int) + 1) (.g [] (k + 1) [.s (li ((k : Int) + 1))])))))) (.o 0 [] []))) (by
 intro k h; try dsimp only [Yhf, Yhl, Z4y] at h ⊢
 with_reducible repeat' (first | apply And.intro | exact zR | (intro))
 all_goals ((try simp only [std, inj] at *); with_reducible and_intros)
 all_goals try first | exact z | grind [Yq8, Yhi, Yhh, Yhe])
theorem Z7z (A B : List Int)  : Zad A B := Yhq Tryz.call78 Tryz.func78 (.z Yhd A (.z Yhd B (.i ((↑(A.map Yhd).length : Int) ≠ (↑(B.map Yhd).length : Int))
 (.s (lb false)) (.l (Z4y A B) (Zdw A B) [] [.s (li 0)] 0 (.t (.s (lb true)) (.t (.s (lb false)) .q)))))) (by
 dsimp only [Yhf, Zad, Yhl, Z4y]
 exact zV)
abbrev Zd (A : List YS) (B : List YS) : Ct := ⟨43, [], [ll (A.map Yh9), ll (B.map Yh9)], [], .sv (lb (decide (A = B)))⟩
abbrev Zp (x : YS) (y : YS) : Ct := ⟨20, [], [Yhu x, Yhu y], [], .sv (lb (decide (x = y)))⟩
def Z2k (A : List YS) (B : List YS) : Lp Nat := .mk 27 0 (fun x => [(0, ll (A.map Yh9)), (1, ll (B.map Yh9)), (5, hs x 0)]) (fun x => []) (fun
 k => [.s (li (k : Int))]) (fun k => k <= A.length /\ A.length <= 9223372036854775807 /\ A.length = B.length /\ A.take k = B.take k) (fun k => A.length - k) [.mk (A = B)
 (.exit 0) (fun x => []) (fun x => []) [], .mk (A ≠ B) .ret (fun x => [(4, hs x 0)]) (fun x => []) [.s (lb false)]]
theorem Zas (A : List YS) (B : List YS) (ih : ∀ (x : YS), x ∈ A -> ∀ (y : YS), OK (Zp x y)) : Lp.Sem Tryz.prog (Yhp Tryz.f43 0)
 (Z2k A B) := Yhz (fun k => .z Yh9 A (.i ((k : Int) < (↑(A.map Yh9).length : Int)) (.w (.draw []) (.x (k : Int) (A.map Yh9) (Yhg (A.getD k
 default)) (.x (k : Int) (B.map Yh9) (Yhg (B.getD k default)) (.d [.rd, .rd] (Zp (A.getD k default) (B.getD k default)) (.b (!decide (A.getD k default =
 B.getD k default)) (.o 1 [] [.s (lb false)]) (.r ((k : Int) + 1) (.g [] (k + 1) [.s (li ((k : Int) + 1))]))))))) (.o 0 [] []))) (by
 intro k h; try dsimp only [Yhf, Yhl, Z2k] at h ⊢
 with_reducible repeat' (first | apply And.intro | exact zR | exact ih | (intro) | apply ih)
 all_goals ((try simp only [std, inj] at *); with_reducible and_intros)
 all_goals try with_reducible first | apply ih
 all_goals try first | exact z | grind [Yq8, Yhj, Yhi, Yhh, Yhe])
theorem Z1v (A B : List YS) (ih : ∀ x ∈ A, ∀ (y : YS), Zp x y)  : Zd A B := Yhq Tryz.call43 Tryz.func43 (.z Yh9 A (.z Yh9 B (.i
 ((↑(A.map Yh9).length : Int) ≠ (↑(B.map Yh9).length : Int)) (.s (lb false)) (.l (Z2k A B) (Zas A B ih) [] [.s (li 0)] 0 (.t (.s (lb true))
 (.t (.s (lb false)) .q)))))) (by
 dsimp only [Yhf, Zd, Yhl, Z2k]
 with_reducible repeat' (first | apply And.intro | exact zR | exact ih | (intro))
 all_goals ((try simp only [std, inj] at *); with_reducible and_intros)
 all_goals try with_reducible first | apply ih
 all_goals (try exact zG))
theorem Zda (x y : YS) (ih : ∀ z ∈ x.items, ∀ (y : YS), Zp z y)  : Zp x y := Yhq Tryz.call20 Tryz.func20 (.i (x.kind ≠ y.kind) (.s (lb false))
 (.i (x.number ≠ y.number) (.s (lb false)) (.i (x.text.data.toList ≠ y.text.data.toList) (.s (lb false)) (.c [.rd, .rd] (Z7z x.scopes y.scopes) (.b (!decide (x.scopes =
 y.scopes)) (.s (lb false)) (.d [.rd, .rd] (Zd x.items y.items) (.b (!decide (x.items = y.items)) (.s (lb false)) (.s (lb true))))))))) (by
 dsimp only [Yhf, Zp]
 simp only [Y1d1]
 with_reducible repeat' (first | apply And.intro | exact zR | exact ih | (intro) | apply Z7z | apply Z1v | apply ih)
 all_goals ((try simp only [std, inj] at *); with_reducible and_intros)
 all_goals try with_reducible first | apply Z7z | apply Z1v | apply ih
 all_goals try first | exact z | grind [Ykg, Yhi, Yhh, Yhe])
theorem Z3x (x : YS) : ∀ (y : YS), Zp x y := YS.ind (P := fun x => ∀ (y : YS), Zp x y) (fun x ih y => Zda x y ih) x
abbrev Z86 (x : YB) (y : YB) : Ct := ⟨113, [], [Ym5 x, Ym5 y], [], .sv (lb (decide (x = y)))⟩
theorem Zdx (x y : YB)  : Z86 x y := Yhq Tryz.call113 Tryz.func113 (.i (x.text.data.toList ≠ y.text.data.toList) (.s (lb false)) (.c [.rd, .rd] (Z7z
 x.scopes y.scopes) (.b (!decide (x.scopes = y.scopes)) (.s (lb false)) (.i (x.kind ≠ y.kind) (.s (lb false)) (.i (x.number ≠ y.number) (.s (lb false)) (.s (lb true))))))) (by
 dsimp only [Yhf, Z86]
 simp only [Y1al]
 with_reducible repeat' (first | apply And.intro | exact zR | (intro))
 all_goals ((try simp only [std, inj] at *); with_reducible and_intros)
 all_goals try first | exact z | grind [Ykg, Yhi, Yhh, Yhe])
abbrev Z7b (A : List YB) (B : List YB) : Ct := ⟨42, [], [ll (A.map Yhc), ll (B.map Yhc)], [], .sv (lb (decide (A = B)))⟩
def Z20 (A : List YB) (B : List YB) : Lp Nat := .mk 27 0 (fun x => [(0, ll (A.map Yhc)), (1, ll (B.map Yhc)), (5, hs x 0)]) (fun x => [])
 (fun k => [.s (li (k : Int))]) (fun k => k <= A.length /\ A.length <= 9223372036854775807 /\ A.length = B.length /\ A.take k = B.take k) (fun k => A.length - k) [.mk (A = B)
 (.exit 0) (fun x => []) (fun x => []) [], .mk (A ≠ B) .ret (fun x => [(4, hs x 0)]) (fun x => []) [.s (lb false)]]
theorem Zae (A : List YB) (B : List YB) : Lp.Sem Tryz.prog (Yhp Tryz.f42 0) (Z20 A B) := Yhz (fun k => .z Yhc A (.i ((k : Int) <
 (↑(A.map Yhc).length : Int)) (.w (.draw []) (.x (k : Int) (A.map Yhc) (Yhx (A.getD k default)) (.x (k : Int) (B.map Yhc) (Yhx (B.getD k
 default)) (.c [.rd, .rd] (Zdx (A.getD k default) (B.getD k default)) (.b (!decide (A.getD k default = B.getD k default)) (.o 1 [] [.s (lb false)]) (.r ((k : Int) + 1) (.g
 [] (k + 1) [.s (li ((k : Int) + 1))]))))))) (.o 0 [] []))) (by
 intro k h; try dsimp only [Yhf, Yhl, Z20] at h ⊢
 with_reducible repeat' (first | apply And.intro | exact zR | (intro))
 all_goals ((try simp only [std, inj] at *); with_reducible and_intros)
 all_goals try first | exact z | grind [Yq8, Yhj, Yhi, Yhh, Yhe])
theorem Zdb (A B : List YB)  : Z7b A B := Yhq Tryz.call42 Tryz.func42 (.z Yhc A (.z Yhc B (.i ((↑(A.map Yhc).length : Int) ≠ (↑(List.map
 Yhc B).length : Int)) (.s (lb false)) (.l (Z20 A B) (Zae A B) [] [.s (li 0)] 0 (.t (.s (lb true)) (.t (.s (lb false)) .q)))))) (by
 dsimp only [Yhf, Z7b, Yhl, Z20]
 exact zV)
abbrev Z9g (x : YR) (y : YR) : Ct := ⟨21, [], [Ymf x, Ymf y], [], .sv (lb (decide (x = y)))⟩
theorem Zgf (x y : YR)  : Z9g x y := Yhq Tryz.call21 Tryz.func21 (.d [.rd, .rd] (Zd x.literals y.literals) (.b (!decide (x.literals = y.literals)) (.s
 (lb false)) (.d [.rd, .rd] (Zd x.patterns y.patterns) (.b (!decide (x.patterns = y.patterns)) (.s (lb false)) (.d [.rd, .rd] (Zd x.templates y.templates) (.b
 (!decide (x.templates = y.templates)) (.s (lb false)) (.s (lb true)))))))) (by
 dsimp only [Yhf, Z9g]
 simp only [Y1e9]
 with_reducible repeat' (first | apply And.intro | exact zR | (intro) | apply Z1v | apply Z3x)
 all_goals ((try simp only [std, inj] at *); with_reducible and_intros)
 all_goals try with_reducible first | apply Z1v | apply Z3x
 all_goals try first | exact z | grind [Ykg, Yhi, Yhh, Yhe])
abbrev Z8z (A : List YR) (B : List YR) : Ct := ⟨77, [], [ll (A.map Yhm), ll (B.map Yhm)], [], .sv (lb (decide (A = B)))⟩
def Z39 (A : List YR) (B : List YR) : Lp Nat := .mk 27 0 (fun x => [(0, ll (A.map Yhm)), (1, ll (B.map Yhm)), (5, hs x 0)]) (fun x => []) (fun k =>
 [.s (li (k : Int))]) (fun k => k <= A.length /\ A.length <= 9223372036854775807 /\ A.length = B.length /\ A.take k = B.take k) (fun k => A.length - k) [.mk (A = B) (.exit 0)
 (fun x => []) (fun x => []) [], .mk (A ≠ B) .ret (fun x => [(4, hs x 0)]) (fun x => []) [.s (lb false)]]
theorem Zc3 (A : List YR) (B : List YR) : Lp.Sem Tryz.prog (Yhp Tryz.f77 0) (Z39 A B) := Yhz (fun k => .z Yhm A (.i ((k : Int) < (↑(List.map
 Yhm A).length : Int)) (.w (.draw []) (.x (k : Int) (A.map Yhm) (Yix (A.getD k default)) (.x (k : Int) (B.map Yhm) (Yix (B.getD k default)) (.c [.rd,
 .rd] (Zgf (A.getD k default) (B.getD k default)) (.b (!decide (A.getD k default = B.getD k default)) (.o 1 [] [.s (lb false)]) (.r ((k : Int) + 1) (.g [] (k + 1) [.s (li
 ((k : Int) + 1))]))))))) (.o 0 [] []))) (by
 intro k h; try dsimp only [Yhf, Yhl, Z39] at h ⊢
 with_reducible repeat' (first | apply And.intro | exact zR | (intro))
 all_goals ((try simp only [std, inj] at *); with_reducible and_intros)
 all_goals try first | exact z | grind [Yq8, Yhj, Yhi, Yhh, Yhe])
theorem Zf7 (A B : List YR)  : Z8z A B := Yhq Tryz.call77 Tryz.func77 (.z Yhm A (.z Yhm B (.i ((↑(A.map Yhm).length : Int) ≠ (↑(List.map Yhm
 B).length : Int)) (.s (lb false)) (.l (Z39 A B) (Zc3 A B) [] [.s (li 0)] 0 (.t (.s (lb true)) (.t (.s (lb false)) .q)))))) (by
 dsimp only [Yhf, Z8z, Yhl, Z39]
 exact zV)
abbrev Z7c (x : YE) (y : YE) : Ct := ⟨19, [], [Yk1 x, Yk1 y], [], .sv (lb (decide (x = y)))⟩
theorem Z69 (x y : YE)  : Z7c x y := Yhq Tryz.call19 Tryz.func19 (.c [.rd, .rd] (Zdb x.bindings y.bindings) (.b (!decide (x.bindings =
 y.bindings)) (.s (lb false)) (.c [.rd, .rd] (Zf7 x.macros y.macros) (.b (!decide (x.macros = y.macros)) (.s (lb false)) (.i (x.scope ≠ y.scope) (.s (lb false)) (.i (x.vari
 ≠ y.vari) (.s (lb false)) (.i (x.steps ≠ y.steps) (.s (lb false)) (.s (lb true))))))))) (by
 dsimp only [Yhf, Z7c]
 simp only [Y16h]
 with_reducible repeat' (first | apply And.intro | exact zR | (intro))
 all_goals ((try simp only [std, inj] at *); with_reducible and_intros)
 all_goals try first | exact z | grind [Ykg, Yhi, Yhh, Yhe])
set_option maxHeartbeats 4000000
abbrev Zdc (x : YE) (s : YS) : Ct := ⟨8, [], [Yk1 x, Yhu s], [], .sv (lb true)⟩
theorem Zh8 (x : YE) (s : YS)  : Zdc x s := Yhq Tryz.call8 Tryz.func8 (.d [.rd, .rd] (Z46 x 1048576) (.i (sz (wX x) (1048576 : Int) < 0) (.s (lb true))
 (.d [.rd, .rd] (Zh s (sz (wX x) 1048576)) (.i (sz (wY s) (sz (wX x) 1048576) < 0) (.s (lb true)) (.w (.draw [(4, [2, 3, 10, 11])]) (.d [.rd] (Z10 x) (.d [.rd]
 (Z6 s) (.d [.agg [some (true, 4), some (true, 3), none, none, none], .agg [none, none, none, some (true, 1), some (true, 5)]] (Z9q x s) (.d [.rd] (Z10 x)
 (.d [.rd] (Z6 s) (.d [.rd, .rd] (Z7w x s) (.d [.rd, .rd] (Zd (trO x s) (trO x s)) (.b (!decide (trO x s = trO x s)) (.s (lb false)) (.w (.draw []) (.d
 [.rd] (Z10 x) (.c [.rd, .rd] (Z69 x x) (.b (!decide (x = x)) (.s (lb false)) (.w (.draw []) (.d [.rd] (Z6 s) (.c [.rd, .rd] (Z3x s s) (.b
 (!decide (s = s)) (.s (lb false)) (.d [.agg [some (true, 4), some (true, 3), none, none, none], .rd] (Z3d x 1) (.d [.agg [none, none, none, some (true, 1), some
 (true, 5)], .rd] (Z43 s (1 + (↑(Yhb cB x.bindings) : Int) + (↑(Yhb cR x.macros) : Int))) (.y false (.d [.rd, .rd] (Zd (trO x s) (trO x s)) (.b (!decide
 (trO x s = trO x s)) (.s (lb false)) (.d [.own true 5, .rd] (Z4 (YS.mk 0 0 default [] (trO x s)) 1) (.d [.rd, .rd] (Z5 (YS.mk 0 0 default []
 (Yhs mkY cY (trO x s) 1)) 1) (.y false (.i (1 + (↑(Yhb cY (Yhs mkY cY (trO x s) 1)) : Int) ≠ 1 + (↑(Yhb cY (trO x s)) : Int)) (.s (lb false)) (.w (.draw []) (.d [.rd]
 (Z10 x) (.d [.rd] (Z6 s) (.d [.rd, .rd] (Z7w x s) (.d [.rd, .rd] (Zd (trO x s) (trO x s)) (.b (!decide (trO x s = trO x s)) (.s (lb false))
 (.d [.rd, .rd] (Z5 (YS.mk 0 0 default [] (Yhs mkY cY (trO x s) 1)) 1) (.y false (.i (1 + (↑(Yhb cY (Yhs mkY cY (trO x s) 1)) : Int) ≠ 1 + (↑(Yhb cY (trO x
 s)) : Int)) (.s (lb false)) (.s (lb true))))))))))))))))))))))))))))))))))))))))) (by
 dsimp only [Yhf, Zdc]
 have h0 := Yli x
 have h1 := Ylg x.bindings fun y _ => Y1kx y
 have h2 := Ylg x.macros fun y _ => Y1le y
 have h3 := Y19w x s
 have h5 := Yyl s
 have h6 := Yq0 s
 have h7 := Ylg (trO x s) fun y _ => Yyl y
 with_reducible repeat' (first | apply And.intro | exact zR | (intro) | apply Z8w | apply Z5v | apply Z8y | apply Z5x | apply Z69 | apply Z3x | apply Z1v | apply Zgc | apply Zge | apply Z79 | apply Z8s | apply Zc | apply Zf | apply Z52 | apply Z7a)
 all_goals (try simp only [std, Yi6, inj] at *)
 all_goals with_reducible and_intros
 all_goals try with_reducible first | apply Z8w | apply Z5v | apply Z8y | apply Z5x | apply Z69 | apply Z3x | apply Z1v | apply Zgc | apply Zge | apply Z79 | apply Z8s | apply Zc | apply Zf | apply Z52 | apply Z7a
 all_goals try first | exact z | ((first | refine Yki ?_ | refine Ylc ?_ rfl); (first | omega | (simp only [std, Yi6]; omega) | grind)) | (refine Yke ?_; (simp only [List.length_map, List.length_set, Yjn]; omega)) | (refine Ykf ?_; (first | omega | (simp only [std, Yi6]; omega) | grind)) | (refine Yjv ?_ rfl; (first | omega | (simp only [std, Yi6]; omega) | grind)) | (refine Yjm ?_ ?_; (first | omega | (simp only [std, Yi6]; omega) | grind); (first | grind [sz, Yk6, Yid, Yiw, Yhi, Yhh, Yhe])) | grind [sz, Yk6, Yid, Yiw, Yhi, Yhh, Yhe])
end Go.Proofs.YtpnaoendfpaodaaGreat
end
section
namespace Go.Proofs.YtpnaoendfpaodaaGreat.fnExactTraceForm
open Go Go.ChangeShapes Go.WideShapes Go.ChangeAt Go.RowKit Go.Proofs.YtpnaoendfpaodaaGreat.Ab
theorem own : ownKnob Tryz.prog.godebug = none := by kernel_rfl
theorem Y1m6 : laidOutB Tryz.prog = true := by kernel_rfl
theorem Y1ll : mapsRowed Tryz.prog = true := by kernel_rfl
theorem Y1lq : ((List.range Tryz.prog.types.size).all fun t => match Tryz.prog.underlying t with | some (.slice e) => decide (0 < Tryz.prog.cellsOf e) | _ => true) = true := by kernel_rfl
set_option maxRecDepth 100000 in
theorem Y1kk (os : Os) (started : os.Started) (H : Type) (enc : TypeId × Value -> H) :
  ReturnsInHanded {} Tryz.checked os 8 .any (Rows.fnExactTraceFormSpec.pre6 enc Tryz.prog Tryz.f8 Rows.fnExactTraceFormRow.domain false) (Rows.fnExactTraceFormSpec.post enc Tryz.prog Tryz.f8 false true false false) := by
 refine returnsInHanded_of_change (C := Tryz.checked) own started (by kernel_rfl) Tryz.func8
  (ChangeSpec.witness6 (enc := enc) (C := Tryz.checked) false ⟨#[], #[.agg #[.slice none 0 0, .slice none 0 0, .int .i64 0, .int .i64 0, .int .i64 0], .agg #[.int .i64 0, .int .i64 0, .string ⟨#[]⟩, .slice none 0 0, .slice none 0 0]], []⟩ 12 (by kernel_rfl) (by kernel_rfl) (by kernel_rfl) (by kernel_rfl)) ?_
 intro W base args ds gs before hval0 hW hcnd _
 have hval : ∀ (j : Nat) t v, Tryz.f8.params[j]? = some t -> args[j]? = some v -> Value.okWide Tryz.prog W .any base t v := hval0
 have hW' := hW
 obtain ⟨p, q, hA0, hV, rfl, hfz, hnd⟩ := hW
 obtain ⟨rfl, rfl⟩ := trodVars_none hV
 have hA : DataW.TrodAll enc Tryz.prog W 0 (fun _ => true) true Tryz.f8.params.toList args.toList ds p := hA0
 rw [Tryz.params8] at hA hval
 have hA2 := hA
 clear hA0 hval0
 obtain ⟨v0, vs0, d0, ds0, p0, q0, hargs0, rfl, rfl, h0, r0⟩ := trodAll_cons hA
 obtain ⟨v1, vs1, d1, ds1, p1, q1, hargs1, rfl, rfl, h1, r1⟩ := trodAll_cons r0
 obtain ⟨rfl, rfl, rfl⟩ := trodAll_nil r1
 obtain rfl : args = #[v0, v1] := by cases args; simp_all
 obtain ⟨a0, c0⟩ := (let ⟨fuel, hf⟩ := h0; Y16n fuel _ _ hf)
 have s0 : Yiq W (Yzb W) (Yj9 []) (Yk1 a0) v0 := Y16r (let ⟨cs, h, _⟩ := okWide_struct Tryz.underlying25 (hval 0 25 v0 rfl rfl); ⟨cs, h⟩) c0
 obtain ⟨a1, c1⟩ := (let ⟨fuel, hf⟩ := h1; Yrn fuel _ _ hf)
 have s1 : Yiq W (Yzb W) (Yj9 []) (Yhu a1) v1 := Y16r (let ⟨cs, h, _⟩ := okWide_struct Tryz.underlying29 (hval 1 29 v1 rfl rfl); ⟨cs, h⟩) c1
 refine (Yky.kept (w := W) (vals := #[v0, v1]) (Zh8 a0 a1) ⟨s0, s1, trivial⟩).mono fun e W' ⟨he, hg, _⟩ => ?_
 subst he
 exact ⟨_, rfl, Y13i (pv := []) hW' (fun _ _ _ => (trodAll_cons_mk (shut_bool Tryz.underlying4 _) trodAll_mk0))
  (fun sp hsp => Yuh Y1m6 Y1ll Y1lq hg (by decide +kernel) hA2 fun y hy => hsp y (by simpa using hy)) (fun _ _ => rfl) rfl
  hg (ok_one (by kernel_rfl) rfl (okWide_bool_mk Tryz.underlying4 _))⟩
set_option maxRecDepth 100000 in
set_option maxHeartbeats 0 in
theorem Y1ks : joinedFacts Tryz.pinned.checked.prog 8 Tryz.f8 Rows.fnExactTraceFormSpec Rows.fnExactTraceFormRow = true := by
 delta joinedFacts
 with_reducible repeat' apply Y1lv
 all_goals (first | with_reducible exact Y1kb | (rw [Y1kw]; kernel_rfl) | (rw [Y1l8]; kernel_rfl) | decide +kernel)
theorem Y1m7 : Rows.fnExactTraceFormRow.holds Tryz.pinned (OpenSpec.ofChange Rows.fnExactTraceFormSpec) :=
 OpenClaim.holds_of_wide 8 Tryz.f8 rfl rfl rfl rfl rfl rfl rfl ⟨rfl, rfl, rfl, rfl, rfl⟩ rfl rfl rfl rfl rfl (by kernel_rfl) Tryz.func8 Y1ks
  (of_decide_eq_true (by kernel_rfl)) (by unfold Func.isWrapper; first | (rw [if_pos (by decide +kernel)]; kernel_rfl) | (rw [if_neg (by decide +kernel)]; exact ⟨rfl, rfl⟩))
  (fun os started H enc _ => Y1kk os started H enc)
theorem proved : Rows.FnExactTraceFormSaid :=
 Y1m7
end Go.Proofs.YtpnaoendfpaodaaGreat.fnExactTraceForm
end
