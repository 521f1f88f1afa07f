/- The program's ExpandStep returns what the reference's returns, for all arguments. No condition. -/
import Derived.Test.YtpnaoendfpaodaaGreatExS3
set_option linter.unusedVariables false
set_option linter.unusedSimpArgs false
section
namespace Go.Proofs.YtpnaoendfpaodaaGreat
open Go Ab
theorem Y136 {H : YS -> Bool} {A : List YS -> Int} : ∀ (l : List YS), (∀ x ∈ l, ∀ d, ∀ z ∈ nm H A x d, wY z.form = 0 /\ z.each = []) -> ∀ i a d, ∀ z ∈ nms H A l i a d, wY z.form = 0 /\ z.each = []
 | [], _, i, a, d, z, hz => by simp [nms] at hz
 | x :: r, h, i, a, d, z, hz => by
  simp only [nms, List.mem_append] at hz
  rcases hz with hz | hz
  ·split at hz
   ·cases hz
   ·exact h x List.mem_cons_self _ z hz
  ·exact Y136 r (fun y hy => h y (List.mem_cons_of_mem _ hy)) _ _ _ z hz
theorem Y1hz {H : YS -> Bool} {A : List YS -> Int} : ∀ (p : YS) (d : Int), ∀ z ∈ nm H A p d, wY z.form = 0 /\ z.each = [] := by
 refine YS.ind fun p ih d z hz => ?_
 rw [Ymz] at hz
 split at hz
 ·split at hz
  ·cases hz
  ·simp only [List.mem_singleton] at hz; subst hz; exact ⟨rfl, rfl⟩
 ·split at hz
  ·exact Y136 p.items ih _ _ _ z hz
  ·cases hz
theorem Y1b4 {g : YS -> Option (List YC)} : ∀ (L : List YS) (R : List (List YC)), mtr g L = some R -> R.length = L.length /\ ∀ c ∈ R, ∃ f ∈ L, g f = some c
 | [], R, e => by simp only [mtr, Option.some.injEq] at e; subst e; simp
 | f :: r, R, e => by
  simp only [mtr] at e
  split at e
  ·cases e
  ·rename_i c hc
   split at e
   ·cases e
   ·rename_i R' hR
    simp only [Option.some.injEq] at e; subst e
    have ih := Y1b4 r R' hR
    refine ⟨by simp [ih.1], fun d hd => ?_⟩
    rcases List.mem_cons.1 hd with rfl | hd
    ·exact ⟨f, List.mem_cons_self, hc⟩
    ·obtain ⟨g', h1, h2⟩ := ih.2 d hd
     exact ⟨g', List.mem_cons_of_mem _ h1, h2⟩
theorem Y16p : mxP (default : YC) = 0 := rfl
theorem Y1ll {V : List YC} {R : List (List YC)} {m : Nat} (hV : ∀ z ∈ V, wY z.form = 0 /\ z.each = []) (hl : R.length <= m) (hR : ∀ c ∈ R, ∀ z ∈ c, mxP z <= m) : ∀ z ∈ rp V R, mxP z <= m := by
 intro z hz
 simp only [rp, List.mem_map, List.mem_range] at hz
 obtain ⟨i, hi, rfl⟩ := hz
 have h1 := hV _ (Yhn hi)
 rw [Yu3]
 simp only [h1.1, h1.2, List.nil_append, List.length_map]
 have h2 : Ytg (R.map fun c => c.getD i default) <= m := Y17h fun y hy => by
  obtain ⟨c, hc, rfl⟩ := List.mem_map.1 hy
  rcases Nat.lt_or_ge i c.length with h3 | h3
  ·exact hR c hc _ (Yhn h3)
  ·have e : c.getD i default = default := by simp [h3]
   rw [e, Y16p]; omega
 omega
theorem Y1k7 {m : Nat} {fs : List YS} (h : ∀ f ∈ fs, wY f <= m) (k : Nat) : wY (fs.getD k default) <= m := by
 rcases Nat.lt_or_ge k fs.length with h3 | h3
 ·exact h _ (Yhn h3)
 ·have e : fs.getD k default = default := by simp [h3]
  have e2 : wY (default : YS) = 0 := rfl
  rw [e, e2]; omega
theorem Y1bz {M : YS -> YS -> Bool} {H : YS -> Bool} {A : List YS -> Int} {m : Nat} : ∀ l : List YS, (∀ x ∈ l, ∀ f c, mt M H A x f = some c -> wY f <= m -> ∀ z ∈ c, mxP z <= m) -> ∀ i a k fs c, mts M H A l i a k fs = some c -> fs.length <= m -> (∀ f ∈ fs, wY f <= m) -> ∀ z ∈ c, mxP z <= m
 | [], _, i, a, k, fs, c, e, _, _, z, hz => by simp only [mts, Option.some.injEq] at e; subst e; cases hz
 | x :: r, h, i, a, k, fs, c, e, hl, hf, z, hz => by
  have ih := Y1bz r (fun y hy => h y (List.mem_cons_of_mem _ hy)) (i + 1) a k
  have hd : ∀ n, (fs.drop n).length <= m /\ ∀ f ∈ fs.drop n, wY f <= m := fun n => ⟨by rw [List.length_drop]; omega, fun f hm => hf f (List.mem_of_mem_drop hm)⟩
  simp only [mts] at e
  split at e
  ·exact ih _ _ e hl hf z hz
  ·split at e
   ·split at e
    ·cases e
    ·rename_i R hR
     split at e
     ·cases e
     ·rename_i c' hc
      simp only [Option.some.injEq] at e; subst e
      obtain ⟨r1, r2⟩ := Y1b4 _ _ hR
      rcases List.mem_append.1 hz with hz | hz
      ·refine Y1ll (fun z hz => Y1hz x 1 z hz) ?_ (fun c hc z hz => ?_) z hz
       ·rw [r1, List.length_take]; omega
       ·obtain ⟨f', h1, h2⟩ := r2 c hc
        exact h x List.mem_cons_self f' c h2 (hf f' (List.mem_of_mem_take h1)) z hz
      ·exact ih _ _ hc (hd k).1 (hd k).2 z hz
   ·split at e
    ·cases e
    ·rename_i c1 h1
     split at e
     ·cases e
     ·rename_i c' hc
      simp only [Option.some.injEq] at e; subst e
      rcases List.mem_append.1 hz with hz | hz
      ·exact h x List.mem_cons_self _ _ h1 (Y1k7 hf 0) z hz
      ·exact ih _ _ hc (hd 1).1 (hd 1).2 z hz
theorem Y1lx {M : YS -> YS -> Bool} {H : YS -> Bool} {A : List YS -> Int} {m : Nat} : ∀ (p f : YS) (c : List YC), mt M H A p f = some c -> wY f <= m -> ∀ z ∈ c, mxP z <= m := by
 refine YS.ind fun p ih f c e hm z hz => ?_
 rw [Yle] at e
 split at e
 ·split at e
  ·simp only [Option.some.injEq] at e; subst e; cases hz
  ·split at e
   ·split at e
    ·simp only [Option.some.injEq] at e; subst e; cases hz
    ·cases e
   ·simp only [Option.some.injEq] at e; subst e
    simp only [List.mem_singleton] at hz; subst hz
    have e2 : mxP (Yr8 p f) = max (wY f) (max 0 0) := rfl
    rw [e2]; omega
 ·split at e
  ·split at e
   ·have h1 := Yjc f
    exact Y1bz p.items ih _ _ _ _ _ e (by omega) (fun g hg => by have := Yi9 wY hg; omega) z hz
   ·cases e
  ·split at e
   ·simp only [Option.some.injEq] at e; subst e; cases hz
   ·cases e
def apK (B : List YB) (r : YR) (f : YS) (k : Nat) : Bool := (gS B r.literals (tlY (r.patterns.getD k default)) (tlY f)).isSome
def apC (B : List YB) (r : YR) (f : YS) (k : Nat) : List YC := (gS B r.literals (tlY (r.patterns.getD k default)) (tlY f)).getD []
def apZ (B : List YB) (r : YR) (f : YS) (k : Nat) : Bool := (List.range k).all fun j => !apK B r f j
def apN (B : List YB) (r : YR) (f : YS) : Nat := (List.range r.patterns.length).findIdx (apK B r f)
def apG (B : List YB) (r : YR) (f : YS) : Bool := decide (f.kind = 0) && !decide ((f.items.length : Int) = 0) && decide (apN B r f < r.patterns.length)
def apB (B : List YB) (r : YR) (f : YS) : Bool := apG B r f && Ynh (r.templates.getD (apN B r f) default) (apC B r f (apN B r f))
def apY (B : List YB) (r : YR) (f : YS) : YS := if apG B r f = true then Yld (r.templates.getD (apN B r f) default) (apC B r f (apN B r f)) else zY
section
variable {B : List YB} {r : YR} {f : YS} {k : Nat}
theorem Y12e : apZ B r f 0 = true := rfl
theorem Y14f : apZ B r f (k + 1) = (apZ B r f k && !apK B r f k) := by simp [apZ, List.range_succ]
theorem Y1d9 (hk : k < r.patterns.length) (h : apK B r f k = true) : apZ B r f r.patterns.length = false := by
 cases e : apZ B r f r.patterns.length with
 | false => rfl
 | true =>
  simp only [apZ, List.all_eq_true, List.mem_range] at e
  have := e k hk
  rw [h] at this; cases this
theorem Y1jf (hk : k < r.patterns.length) (h : apZ B r f k = true) (h2 : apK B r f k = true) : apN B r f = k := by
 unfold apN
 have hl : k < (List.range r.patterns.length).length := by simpa using hk
 rw [List.findIdx_eq hl]
 refine ⟨by simpa using h2, fun j hj => ?_⟩
 simp only [apZ, List.all_eq_true, List.mem_range] at h
 have := h j hj
 simpa using this
theorem Y1fu (h : apZ B r f r.patterns.length = true) : ¬ apN B r f < r.patterns.length := by
 unfold apN
 intro hl
 have hl' : (List.range r.patterns.length).findIdx (apK B r f) < (List.range r.patterns.length).length := by simpa using hl
 have h3 := List.findIdx_getElem (w := hl')
 simp only [apZ, List.all_eq_true, List.mem_range] at h
 rw [List.getElem_range] at h3
 have := h _ hl
 rw [h3] at this; cases this
theorem Y184 (h : ¬ f.kind = 0) : apB B r f = false /\ apY B r f = zY := by
 have e : apG B r f = false := by simp [apG, h]
 unfold apB apY; rw [e]; exact ⟨rfl, rfl⟩
theorem Y164 (h : f.items.length = 0) : apB B r f = false /\ apY B r f = zY := by
 have e : apG B r f = false := by simp [apG, h]
 unfold apB apY; rw [e]; exact ⟨rfl, rfl⟩
theorem Y17e (h : apZ B r f r.patterns.length = true) : apB B r f = false /\ apY B r f = zY := by
 have e : apG B r f = false := by simp [apG, Y1fu h]
 unfold apB apY; rw [e]; exact ⟨rfl, rfl⟩
theorem Y1g2 (h0 : f.kind = 0) (h1 : 0 < f.items.length) (hk : k < r.patterns.length) (h : apZ B r f k = true) (h2 : apK B r f k = true) : apB B r f = Ynh (r.templates.getD k default) (apC B r f k) /\ apY B r f = Yld (r.templates.getD k default) (apC B r f k) := by
 have e := Y1jf hk h h2
 have e2 : apG B r f = true := by unfold apG; rw [e]; simp [h0, hk]; intro h3; rw [h3] at h1; simp at h1
 unfold apB apY; rw [e2, e]; exact ⟨rfl, rfl⟩
theorem Ytc (hr : Yks r = true) (hk : k < r.patterns.length) : good r.literals (tlY (r.patterns.getD k default)) /\ Yi6 (tlY (r.patterns.getD k default)) <= 40 /\ Yho (tlY (r.patterns.getD k default)) <= 2000 /\ k < r.templates.length /\ r.literals.all Yke = true /\ 1 <= (r.patterns.getD k default).items.length := by
 simp only [Yks, Bool.and_eq_true, decide_eq_true_eq] at hr
 obtain ⟨⟨⟨⟨h1, h2⟩, _⟩, h3⟩, _⟩ := hr
 have h4 := Yvv r _ (k + 1) hk h3
 simp only [Ymv, clT, clP, Bool.and_eq_true] at h4
 have h5 := h4.2.1
 have h6 := Y10e h5.1.1.1.1.1
 have h7 := h5.1.1.1.2
 have h8 := Y1hf h6 h5.2
 simp only [okL, Bool.and_eq_true] at h1
 refine ⟨h8.1, h8.2.2, h8.2.1, by omega, h1.1, ?_⟩
 simp only [Bool.not_eq_true', decide_eq_false_iff_not] at h7
 omega
theorem Y1dh {m : Nat} (hr : Yks r = true) (hk : k < r.patterns.length) (hf : wY (tlY f) <= m) : (∀ z ∈ apC B r f k, mxP z <= m) /\ (apC B r f k).length <= 2000 := by
 have h1 := Ytc hr hk
 unfold apC
 cases e : gS B r.literals (tlY (r.patterns.getD k default)) (tlY f) with
 | none => simp
 | some c =>
  simp only [Option.getD_some]
  refine ⟨Y1lx _ _ _ e hf, ?_⟩
  have h2 := Y1bt e
  have h3 := Y101 (Ls := r.literals) (tlY (r.patterns.getD k default))
  omega
theorem Y1ij (hr : Yks r = true) (hk : k < r.patterns.length) (g : YS) : gI B r.literals (tlY (r.patterns.getD k default)) g = gS B r.literals (tlY (r.patterns.getD k default)) g := by
 have h1 := Ytc hr hk
 exact ((Y176 (M := mng B) (List.all_eq_true.1 h1.2.2.2.2.1) _ h1.1).1 g).symm
end
end Go.Proofs.YtpnaoendfpaodaaGreat
end
section
namespace Go.Proofs.YtpnaoendfpaodaaGreat
open Go Ab
set_option maxHeartbeats 4000000
abbrev Z9r (B : List YB) (r : YR) (f : YS) : Ct := ⟨114, [], [ll (B.map Yhg), Ymi r, Yhz f], Ykc (apY B r f), .tup [Yjv (apY B r f) 0, lb (apB B r f)]⟩
def Z6v (B : List YB) (r : YR) (f : YS) : Lp Nat := .mk 54 0 (fun x => [(0, ll (B.map Yhg)), (4, .one (.ptr 0 0)), (5, .one (.ptr 1 0)), (6,
 .one (.ptr 2 0)), (23, ll (r.patterns.map Yhd)), (24, li (↑(r.patterns.map Yhd).length : Int)), (25, hs x 0)]) (fun x => [.box (vals (Yiv r)), .box
 (vals (Yhk f)), .box [vI 0, vI 0, vS (ByteArray.mk #[]), .val (.lit (.slice none 0 0)), .val (.lit (.slice none 0 0))]]) (fun k => [.s (li (↑k :
 Int))]) (fun k => k <= r.patterns.length /\ r.patterns.length <= 9223372036854775807 /\ apZ B r f k = true /\ f.kind = 0 /\ 0 < f.items.length) (fun k => r.patterns.length - k) [.mk
 (apZ B r f r.patterns.length = true) (.exit 0) (fun x => [(6, .one (.ptr 0 0))]) (fun x => [.box [vI 0, vI 0, vS (ByteArray.mk #[]), .val (.lit (.slice none 0
 0)), .val (.lit (.slice none 0 0))]]) [], .mk (apZ B r f r.patterns.length = false) .ret (fun x => [(6, .one (.ptr 0 0)), (7, hs x 5)]) (fun x => [.box [ha x 0,
 ha x 1, ha x 2, .ref 1, .ref 2], ho x 3, ho x 4]) [.a (vI (apY B r f).kind), .a (vI (apY B r f).number), .a (vS (apY B r f).text), .o (.arr true 1 ((apY B r
 f).scopes.map Yhh)), .o (.arr true 5 ((apY B r f).items.map Yhd)), .s (lb (apB B r f))]]
theorem Zg7 (B : List YB) (r : YR) (f : YS) (h : B.length <= 1048577 /\ Yhe wB B <= 1048577 /\ wR r <= 1048576 /\ wY f <= 1000000000) (hr : Yks r = true) : Lp.Sem
 Tryz.prog (Yht Tryz.f114 0) (Z6v B r f) := Yi3 (fun k => .i ((k : Int) < (↑(r.patterns.map Yhd).length : Int)) (.x (k : Int) (r.patterns.map Yhd)
 (Yhk (r.patterns.getD k default)) (.w (.draw [(8, [20])]) (.d [.rd] (Z5a (r.patterns.getD k default)) (.d [.rd] (Z5a f) (.w (.bool false) (.d [.rd, .rd, .rd, .rd,
 .own true 12] (Zh B r.literals (YS.mk 0 0 (mkS []) [] (List.drop 1 (r.patterns.getD k default).items)) (YS.mk 0 0 (mkS []) [] (f.items.drop 1)) []) (.b (gS B
 r.literals (YS.mk 0 0 (mkS []) [] (List.drop 1 (r.patterns.getD k default).items)) (YS.mk 0 0 (mkS []) [] (f.items.drop 1))).isSome (.x (k : Int) (List.map Yhd
 r.templates) (Yhk (r.templates.getD k default)) (.d [.rd, .rd] (Z9p (r.templates.getD k default) (smO (YS.mk 0 0 (mkS []) [] (List.drop 1 (r.patterns.getD k
 default).items)) [] (gS B r.literals (YS.mk 0 0 (mkS []) [] (List.drop 1 (r.patterns.getD k default).items)) (YS.mk 0 0 (mkS []) [] (f.items.drop 1))))) (.o 1 [2, 23,
 24] [.a (vI (Yld (r.templates.getD k default) (smO (YS.mk 0 0 (mkS []) [] (List.drop 1 (r.patterns.getD k default).items)) [] (gS B r.literals (YS.mk 0 0 (mkS []) []
 (List.drop 1 (r.patterns.getD k default).items)) (YS.mk 0 0 (mkS []) [] (f.items.drop 1))))).kind), .a (vI (Yld (r.templates.getD k default) (smO (YS.mk 0 0 (mkS [])
 [] (List.drop 1 (r.patterns.getD k default).items)) [] (gS B r.literals (YS.mk 0 0 (mkS []) [] (List.drop 1 (r.patterns.getD k default).items)) (YS.mk 0 0 (mkS []) []
 (f.items.drop 1))))).number), .a (vS (Yld (r.templates.getD k default) (smO (YS.mk 0 0 (mkS []) [] (List.drop 1 (r.patterns.getD k default).items)) [] (gS B r.literals
 (YS.mk 0 0 (mkS []) [] (List.drop 1 (r.patterns.getD k default).items)) (YS.mk 0 0 (mkS []) [] (f.items.drop 1))))).text), .o (.arr true 1 ((Yld
 (r.templates.getD k default) (smO (YS.mk 0 0 (mkS []) [] (List.drop 1 (r.patterns.getD k default).items)) [] (gS B r.literals (YS.mk 0 0 (mkS []) [] (List.drop 1
 (r.patterns.getD k default).items)) (YS.mk 0 0 (mkS []) [] (f.items.drop 1))))).scopes.map Yhh)), .o (.arr true 5 ((Yld (r.templates.getD k default) (smO
 (YS.mk 0 0 (mkS []) [] (List.drop 1 (r.patterns.getD k default).items)) [] (gS B r.literals (YS.mk 0 0 (mkS []) [] (List.drop 1 (r.patterns.getD k default).items))
 (YS.mk 0 0 (mkS []) [] (f.items.drop 1))))).items.map Yhd)), .s (lb (Ynh (r.templates.getD k default) (smO (YS.mk 0 0 (mkS []) [] (List.drop 1 (r.patterns.getD k
 default).items)) [] (gS B r.literals (YS.mk 0 0 (mkS []) [] (List.drop 1 (r.patterns.getD k default).items)) (YS.mk 0 0 (mkS []) [] (f.items.drop 1))))))]))) (.r ((↑k
 : Int) + 1) (.g [0, 1, 2] (k + 1) [.s (li ((k : Int) + 1))]))))))))) (.o 0 [2] [])) (by
 intro k h; try dsimp only [Yhj, Yhq, Z6v] at h ⊢
 have g1 := @Y14f B r f k
 have g0 := @Y1d9 B r f k
 have g2 := @Y1g2 B r f k
 have g3 := @Ytc r k hr
 have g4 := @Y1dh B r f k 1000000000 hr
 have g5 := Ynv r
 have g6 := @Yi9 _ wY r.patterns (r.patterns.getD k default)
 have g7 := @Yi9 _ wY r.templates (r.templates.getD k default)
 have g8 := Yvo (r.patterns.getD k default)
 have g9 := Yvo f
 with_reducible repeat' (first | apply And.intro | exact zR | (intro) | apply Z3q | apply Za6 | apply Za8)
 all_goals ((try simp only [std, inj] at *); with_reducible and_intros)
 all_goals try with_reducible first | apply Z3q | apply Za6 | apply Za8
 all_goals try first | exact zw | grind [tlY, Yhn, apK, apC, Yvi, Yhl, Yhm, Yhi])
theorem Zg8 (B : List YB) (r : YR) (f : YS) (h : B.length <= 1048577 /\ Yhe wB B <= 1048577 /\ wR r <= 1048576 /\ wY f <= 1000000000) (hr : Yks r = true)  : Z9r B
 r f := Yhv Tryz.call114 Tryz.func114 (.i (f.kind ≠ 0) (.y true (.w (.ghost (.nilbox 2 3 true 1)) (.w (.ghost (.nilbox 2 4 true 5)) (.f [3, 4] [.arr true 1 [], .arr true 5 []]
 (.tup [.agg [vI 0, vI 0, vS (ByteArray.mk #[]), .ref 0, .ref 1], lb false]))))) (.z Yhd f.items (.i ((↑(f.items.map Yhd).length : Int) = 0) (.w (.ghost
 (.nilbox 2 3 true 1)) (.w (.ghost (.nilbox 2 4 true 5)) (.f [3, 4] [.arr true 1 [], .arr true 5 []] (.tup [.agg [vI 0, vI 0, vS (ByteArray.mk #[]), .ref 0, .ref 1], lb
 false])))) (.z Yhd r.patterns (.l (Z6v B r f) (Zg7 B r f h hr) [0, 1, 2] [.s (li 0)] 0 (.t (.w (.ghost (.nilbox 0 3 true 1)) (.w (.ghost (.nilbox 0 4 true 5)) (.f
 [1, 2] [.arr true 1 [], .arr true 5 []] (.tup [.agg [vI 0, vI 0, vS (ByteArray.mk #[]), .ref 0, .ref 1], lb false])))) (.t (.f [1, 2] [.arr true 1 (List.map Yhh
 (apY B r f).scopes), .arr true 5 ((apY B r f).items.map Yhd)] (.tup [.agg [vI (apY B r f).kind, vI (apY B r f).number, vS (apY B r f).text, .ref 0, .ref 1], lb
 (apB B r f)])) .q))))))) (by
 dsimp only [Yhj, Z9r, Yhq, Z6v]
 have g1 := @Y184 B r f
 have g2 := @Y164 B r f
 have g3 := @Y17e B r f
 have gz : zY.kind = 0 /\ zY.number = 0 /\ zY.text = mkS [] /\ zY.scopes = [] /\ zY.items = [] := ⟨rfl, rfl, rfl, rfl, rfl⟩
 with_reducible repeat' (first | apply And.intro | exact zR | (intro) | apply Z3q | apply Za6 | apply Za8)
 all_goals ((try simp only [std, inj] at *); with_reducible and_intros)
 all_goals try with_reducible first | apply Z3q | apply Za6 | apply Za8
 all_goals try first | exact zw | grind [Y12e, Yhl, Yhm, Yhi])
abbrev Z9s (B : List YB) (r : YR) (f : YS) : Ct := ⟨115, [], [ll (B.map Yhg), Ymi r, Yhz f], Ykc (apY B r f), .tup [Yjv (apY B r f) 0, lb (apB B r f)]⟩
def Z6w (B : List YB) (r : YR) (f : YS) : Lp Nat := .mk 56 0 (fun x => [(4, .one (.ptr 0 0)), (5, .one (.ptr 1 0)), (6, .one (.ptr 2 0)), (8, .one
 (.ptr 3 0)), (28, ll (r.patterns.map Yhd)), (29, li (↑(r.patterns.map Yhd).length : Int)), (30, hs x 0)]) (fun x => [.box (vals (Yiv r)), .box (vals
 (Yhk f)), .box [vI 0, vI 0, vS (ByteArray.mk #[]), .val (.lit (.slice none 0 0)), .val (.lit (.slice none 0 0))], .box [vL (B.map Yhg), vL
 (r.literals.map Yhd)]]) (fun k => [.s (li (k : Int))]) (fun k => k <= r.patterns.length /\ r.patterns.length <= 9223372036854775807 /\ apZ B r f k = true /\ f.kind = 0 /\ 0 <
 f.items.length) (fun k => r.patterns.length - k) [.mk (apZ B r f r.patterns.length = true) (.exit 0) (fun x => [(6, .one (.ptr 0 0))]) (fun x => [.box [vI 0, vI 0, vS
 (ByteArray.mk #[]), .val (.lit (.slice none 0 0)), .val (.lit (.slice none 0 0))]]) [], .mk (apZ B r f r.patterns.length = false) .ret (fun x => [(6, .one
 (.ptr 0 0)), (7, hs x 5)]) (fun x => [.box [ha x 0, ha x 1, ha x 2, .ref 1, .ref 2], ho x 3, ho x 4]) [.a (vI (apY B r f).kind), .a (vI (apY B r f).number), .a (vS (apY B
 r f).text), .o (.arr true 1 ((apY B r f).scopes.map Yhh)), .o (.arr true 5 ((apY B r f).items.map Yhd)), .s (lb (apB B r f))]]
theorem Zg9 (B : List YB) (r : YR) (f : YS) (h : B.length <= 1048577 /\ Yhe wB B <= 1048577 /\ wR r <= 1048576 /\ wY f <= 1000000000) (hr : Yks r = true) : Lp.Sem
 Tryz.prog (Yht Tryz.f115 0) (Z6w B r f) := Yi3 (fun k => .i ((k : Int) < (↑(r.patterns.map Yhd).length : Int)) (.x (k : Int) (r.patterns.map Yhd)
 (Yhk (r.patterns.getD k default)) (.w (.draw []) (.d [.rd] (Z5b (r.patterns.getD k default)) (.d [.rd] (Z5b f) (.d [.rd, .rd, .rd, .own true 12] (Zo B
 r.literals (YS.mk 0 0 (mkS []) [] (List.drop 1 (r.patterns.getD k default).items)) (YS.mk 0 0 (mkS []) [] (f.items.drop 1)) []) (.b (gI B r.literals (YS.mk 0 0
 (mkS []) [] (List.drop 1 (r.patterns.getD k default).items)) (YS.mk 0 0 (mkS []) [] (f.items.drop 1))).isSome (.x (k : Int) (r.templates.map Yhd) (Yhk
 (r.templates.getD k default)) (.d [.rd, .rd] (Z9q (r.templates.getD k default) (smO (YS.mk 0 0 (mkS []) [] (List.drop 1 (r.patterns.getD k default).items)) [] (gI B
 r.literals (YS.mk 0 0 (mkS []) [] (List.drop 1 (r.patterns.getD k default).items)) (YS.mk 0 0 (mkS []) [] (f.items.drop 1))))) (.o 1 [2, 23, 24] [.a (vI (Yld
 (r.templates.getD k default) (smO (YS.mk 0 0 (mkS []) [] (List.drop 1 (r.patterns.getD k default).items)) [] (gI B r.literals (YS.mk 0 0 (mkS []) [] (List.drop 1
 (r.patterns.getD k default).items)) (YS.mk 0 0 (mkS []) [] (f.items.drop 1))))).kind), .a (vI (Yld (r.templates.getD k default) (smO (YS.mk 0 0 (mkS []) []
 (List.drop 1 (r.patterns.getD k default).items)) [] (gI B r.literals (YS.mk 0 0 (mkS []) [] (List.drop 1 (r.patterns.getD k default).items)) (YS.mk 0 0 (mkS []) []
 (f.items.drop 1))))).number), .a (vS (Yld (r.templates.getD k default) (smO (YS.mk 0 0 (mkS []) [] (List.drop 1 (r.patterns.getD k default).items)) [] (gI B r.literals
 (YS.mk 0 0 (mkS []) [] (List.drop 1 (r.patterns.getD k default).items)) (YS.mk 0 0 (mkS []) [] (f.items.drop 1))))).text), .o (.arr true 1 ((Yld
 (r.templates.getD k default) (smO (YS.mk 0 0 (mkS []) [] (List.drop 1 (r.patterns.getD k default).items)) [] (gI B r.literals (YS.mk 0 0 (mkS []) [] (List.drop 1
 (r.patterns.getD k default).items)) (YS.mk 0 0 (mkS []) [] (f.items.drop 1))))).scopes.map Yhh)), .o (.arr true 5 ((Yld (r.templates.getD k default) (smO
 (YS.mk 0 0 (mkS []) [] (List.drop 1 (r.patterns.getD k default).items)) [] (gI B r.literals (YS.mk 0 0 (mkS []) [] (List.drop 1 (r.patterns.getD k default).items))
 (YS.mk 0 0 (mkS []) [] (f.items.drop 1))))).items.map Yhd)), .s (lb (Ynh (r.templates.getD k default) (smO (YS.mk 0 0 (mkS []) [] (List.drop 1 (r.patterns.getD k
 default).items)) [] (gI B r.literals (YS.mk 0 0 (mkS []) [] (List.drop 1 (r.patterns.getD k default).items)) (YS.mk 0 0 (mkS []) [] (f.items.drop 1))))))]))) (.r ((↑k
 : Int) + 1) (.g [0, 1, 2, 3] (k + 1) [.s (li ((k : Int) + 1))])))))))) (.o 0 [2] [])) (by
 intro k h; try dsimp only [Yhj, Yhq, Z6w] at h ⊢
 have g1 := @Y14f B r f k
 have g0 := @Y1d9 B r f k
 have g2 := @Y1g2 B r f k
 have g3 := @Ytc r k hr
 have g4 := @Y1dh B r f k 1000000000 hr
 have g5 := Ynv r
 have g6 := @Yi9 _ wY r.patterns (r.patterns.getD k default)
 have g7 := @Yi9 _ wY r.templates (r.templates.getD k default)
 have g8 := Yvo (r.patterns.getD k default)
 have g9 := Yvo f
 have g10 := @Y1ij B r k hr
 with_reducible repeat' (first | apply And.intro | exact zR | (intro) | apply Z3r | apply Za7 | apply Za9)
 all_goals ((try simp only [std, inj] at *); with_reducible and_intros)
 all_goals try with_reducible first | apply Z3r | apply Za7 | apply Za9
 all_goals try first | exact zw | grind [tlY, Yhn, apK, apC, Yvi, Yhl, Yhm, Yhi])
theorem Zga (B : List YB) (r : YR) (f : YS) (h : B.length <= 1048577 /\ Yhe wB B <= 1048577 /\ wR r <= 1048576 /\ wY f <= 1000000000) (hr : Yks r = true)  : Z9s B
 r f := Yhv Tryz.call115 Tryz.func115 (.i (f.kind ≠ 0) (.y true (.w (.ghost (.nilbox 2 3 true 1)) (.w (.ghost (.nilbox 2 4 true 5)) (.f [3, 4] [.arr true 1 [], .arr true 5 []]
 (.tup [.agg [vI 0, vI 0, vS (ByteArray.mk #[]), .ref 0, .ref 1], lb false]))))) (.z Yhd f.items (.i ((↑(f.items.map Yhd).length : Int) = 0) (.w (.ghost
 (.nilbox 2 3 true 1)) (.w (.ghost (.nilbox 2 4 true 5)) (.f [3, 4] [.arr true 1 [], .arr true 5 []] (.tup [.agg [vI 0, vI 0, vS (ByteArray.mk #[]), .ref 0, .ref 1], lb
 false])))) (.z Yhd r.patterns (.l (Z6w B r f) (Zg9 B r f h hr) [0, 1, 2, 3] [.s (li 0)] 0 (.t (.w (.ghost (.nilbox 0 3 true 1)) (.w (.ghost (.nilbox 0 4 true 5))
 (.f [1, 2] [.arr true 1 [], .arr true 5 []] (.tup [.agg [vI 0, vI 0, vS (ByteArray.mk #[]), .ref 0, .ref 1], lb false])))) (.t (.f [1, 2] [.arr true 1 (List.map Yhh
 (apY B r f).scopes), .arr true 5 ((apY B r f).items.map Yhd)] (.tup [.agg [vI (apY B r f).kind, vI (apY B r f).number, vS (apY B r f).text, .ref 0, .ref 1], lb
 (apB B r f)])) .q))))))) (by
 dsimp only [Yhj, Z9s, Yhq, Z6w]
 have g1 := @Y184 B r f
 have g2 := @Y164 B r f
 have g3 := @Y17e B r f
 have gz : zY.kind = 0 /\ zY.number = 0 /\ zY.text = mkS [] /\ zY.scopes = [] /\ zY.items = [] := ⟨rfl, rfl, rfl, rfl, rfl⟩
 with_reducible repeat' (first | apply And.intro | exact zR | (intro) | apply Z3r | apply Za7 | apply Za9)
 all_goals ((try simp only [std, inj] at *); with_reducible and_intros)
 all_goals try with_reducible first | apply Z3r | apply Za7 | apply Za9
 all_goals try first | exact zw | grind [Y12e, Yhl, Yhm, Yhi])
def Yi8 (n : Int) : List Int -> List Int
 | [] => [n]
 | x :: r => if n <= x then (if x = n then x :: r else n :: x :: r) else x :: Yi8 n r
def plN (n : Int) (L : List Int) : Bool := L.any fun x => decide (n <= x)
theorem Y181 {n : Int} : ∀ {A : List Int} (C : List Int), plN n A = true -> Yi8 n (A ++ C) = Yi8 n A ++ C
 | [], _, h => by cases h
 | x :: r, C, h => by
  simp only [List.cons_append, Yi8]
  split
  ·split <;> rfl
  ·rename_i hx
   have : plN n r = true := by simpa [plN, hx] using h
   rw [Y181 C this]; rfl
theorem Ysn {n : Int} : ∀ {A : List Int} (C : List Int), plN n A = false -> Yi8 n (A ++ C) = A ++ Yi8 n C
 | [], _, _ => rfl
 | x :: r, C, h => by
  simp only [plN, List.any_cons, Bool.or_eq_false_iff, decide_eq_false_iff_not] at h
  simp only [List.cons_append, Yi8]
  rw [if_neg h.1, Ysn C (by simpa [plN] using h.2)]
def Yj0 (n : Int) (L : List Int) (k : Nat) : List Int := if plN n (L.take k) = true then Yi8 n (L.take k) else L.take k
theorem You {n : Int} {L : List Int} {k : Nat} (h : k < L.length) : plN n (L.take (k + 1)) = (plN n (L.take k) || decide (n <= L.getD k 0)) := by
 have e := Yi2 h
 unfold plN; rw [e, List.any_append]; simp
theorem Y17u {n : Int} {L : List Int} {k : Nat} (h : k < L.length) (h1 : plN n (L.take k) = true) : Yj0 n L (k + 1) = Yj0 n L k ++ [L.getD k 0] := by
 have e := Yi2 h
 unfold Yj0
 rw [if_pos (by rw [You h, h1]; rfl), if_pos h1, e, Y181 _ h1]; rfl
theorem Y16t {n : Int} {L : List Int} {k : Nat} (h : k < L.length) (h1 : plN n (L.take k) = false) (h2 : ¬ n <= L.getD k 0) : Yj0 n L (k + 1) = Yj0 n L k ++ [L.getD k 0] := by
 have e := Yi2 h
 unfold Yj0
 rw [if_neg (by rw [You h, h1, decide_eq_false h2]; decide), if_neg (by rw [h1]; decide), e]; rfl
theorem Y18y {n : Int} {L : List Int} {k : Nat} (h : k < L.length) (h1 : plN n (L.take k) = false) (h2 : n <= L.getD k 0) (h3 : L.getD k 0 = n) : Yj0 n L (k + 1) = Yj0 n L k ++ [L.getD k 0] := by
 have e := Yi2 h
 unfold Yj0
 rw [if_pos (by rw [You h, h1, decide_eq_true h2]; rfl), if_neg (by rw [h1]; decide), e, Ysn _ h1]
 show L.take k ++ Yi8 n [L.getD k 0] = _
 simp only [Yi8]; rw [if_pos h2, if_pos h3]
theorem Y15d {n : Int} {L : List Int} {k : Nat} (h : k < L.length) (h1 : plN n (L.take k) = false) (h2 : n <= L.getD k 0) (h3 : ¬ L.getD k 0 = n) : Yj0 n L (k + 1) = Yj0 n L k ++ [n] ++ [L.getD k 0] := by
 have e := Yi2 h
 unfold Yj0
 rw [if_pos (by rw [You h, h1, decide_eq_true h2]; rfl), if_neg (by rw [h1]; decide), e, Ysn _ h1]
 show L.take k ++ Yi8 n [L.getD k 0] = _
 simp only [Yi8]; rw [if_pos h2, if_neg h3, List.append_assoc]; rfl
theorem Y132 {n : Int} {L : List Int} {k : Nat} (h : L.length <= k) : (plN n (L.take k) = true -> Yj0 n L k = Yi8 n L) /\ (plN n (L.take k) = false -> Yj0 n L k ++ [n] = Yi8 n L) := by
 have e := List.take_of_length_le h
 refine ⟨fun h1 => ?_, fun h1 => ?_⟩
 ·unfold Yj0; rw [if_pos h1, e]
 ·unfold Yj0; rw [if_neg (by rw [h1]; decide)]
  rw [e] at h1 ⊢
  have := Ysn [] h1
  rw [List.append_nil] at this; rw [this]; rfl
theorem Ysj (n : Int) : ∀ L : List Int, (Yi8 n L).length <= L.length + 1
 | [] => by simp [Yi8]
 | x :: r => by
  have := Ysj n r
  simp only [Yi8]; split
  ·split <;> simp
  ·simp only [List.length_cons]; omega
theorem Ysk (n : Int) (L : List Int) (k : Nat) : (Yj0 n L k).length <= L.length + 1 := by
 have h : (L.take k).length <= L.length := by rw [List.length_take]; omega
 unfold Yj0; split
 ·have := Ysj n (L.take k); omega
 ·omega
def Yib (n : Int) (L : List Int) : List Int := if n ∈ L then L.filter fun x => decide (x ≠ n) else Yi8 n L
theorem Y13t (n : Int) (L : List Int) : (Yib n L).length <= L.length + 1 := by
 unfold Yib; split
 ·have := List.length_filter_le (fun x => decide (x ≠ n)) L; omega
 ·exact Ysj n L
def srt : List Int -> Prop
 | [] => True
 | x :: r => (1 <= x /\ x <= 99999) /\ (∀ y ∈ r, x < y) /\ srt r
theorem Y18i {n : Int} (hn : 1 <= n /\ n <= 99999) : ∀ L, srt L -> srt (Yi8 n L) /\ ∀ y ∈ Yi8 n L, y = n ∨ y ∈ L
 | [], _ => ⟨⟨hn, by simp, trivial⟩, by simp [Yi8]⟩
 | x :: r, h => by
  obtain ⟨h1, h2, h3⟩ := h
  simp only [Yi8]
  split
  ·rename_i hx
   split
   ·exact ⟨⟨h1, h2, h3⟩, fun y hy => .inr hy⟩
   ·refine ⟨⟨hn, fun y hy => ?_, h1, h2, h3⟩, fun y hy => ?_⟩
    ·rcases List.mem_cons.1 hy with rfl | hy
     ·omega
     ·have := h2 y hy; omega
    ·rcases List.mem_cons.1 hy with rfl | hy
     ·exact .inl rfl
     ·exact .inr hy
  ·rename_i hx
   obtain ⟨i1, i2⟩ := Y18i hn r h3
   refine ⟨⟨h1, fun y hy => ?_, i1⟩, fun y hy => ?_⟩
   ·rcases i2 y hy with rfl | hy
    ·omega
    ·exact h2 y hy
   ·rcases List.mem_cons.1 hy with rfl | hy
    ·exact .inr List.mem_cons_self
    ·rcases i2 y hy with rfl | hy
     ·exact .inl rfl
     ·exact .inr (List.mem_cons_of_mem _ hy)
theorem Ywn {x : Int} : ∀ {A : List Int}, srt (A ++ [x]) ↔ srt A /\ (1 <= x /\ x <= 99999) /\ ∀ y ∈ A, y < x
 | [] => by simp [srt]
 | a :: A => by
  simp only [List.cons_append, srt, Ywn (A := A), List.mem_append, List.mem_singleton, List.mem_cons]
  constructor
  ·rintro ⟨h1, h2, h3, h4, h5⟩
   exact ⟨⟨h1, fun y hy => h2 y (.inl hy), h3⟩, h4, fun y hy => hy.elim (fun e => by rw [e]; exact h2 x (.inr (.inl rfl))) (h5 y)⟩
  ·rintro ⟨⟨h1, h2, h3⟩, h4, h5⟩
   exact ⟨h1, fun y hy => hy.elim (h2 y) (fun e => e.elim (fun e => by rw [e]; exact h5 a (.inl rfl)) (fun e => by cases e)), h3, h4, fun y hy => h5 y (.inr hy)⟩
theorem Y10o (L : List Int) : ∀ k, k <= L.length -> (Yll L k = true ↔ srt (L.take k))
 | 0, _ => by simp [Yll, srt]
 | k + 1, hk => by
  have e := Yi2 (L := L) (k := k) (by omega)
  have ih := Y10o L k (by omega)
  rw [e, Ywn, <- ih]
  simp only [Yll, Bool.and_eq_true, Bool.or_eq_true, decide_eq_true_eq]
  constructor
  ·rintro ⟨⟨h1, h2⟩, h3⟩
   refine ⟨h1, h2, fun y hy => ?_⟩
   rcases h3 with h2 | h2
   ·subst h2; simp at hy
   ·have hs := ih.1 h1
    have e2 := Yi2 (L := L) (k := k - 1) (by omega)
    have hk0 : 0 < k := by
     rcases Nat.eq_zero_or_pos k with h0 | h0
     ·subst h0; simp at hy
     ·exact h0
    rw [show k - 1 + 1 = k by omega] at e2
    rw [e2] at hs hy
    have h4 := Ywn.1 hs
    rcases List.mem_append.1 hy with hy | hy
    ·have := h4.2.2 y hy; omega
    ·simp only [List.mem_singleton] at hy; omega
  ·rintro ⟨h1, h2, h3⟩
   refine ⟨⟨h1, h2⟩, ?_⟩
   rcases Nat.eq_zero_or_pos k with h0 | h0
   ·exact .inl h0
   ·right
    refine h3 _ ?_
    rw [List.mem_iff_getElem?]
    refine ⟨k - 1, ?_⟩
    rw [List.getElem?_take, if_pos (by omega)]
    simp [List.getD_eq_getElem?_getD, List.getElem?_eq_getElem (show k - 1 < L.length by omega)]
theorem Yxb (L : List Int) : Ykf L = true ↔ srt L := by
 have := Y10o L L.length (Nat.le_refl _)
 rw [List.take_length] at this; exact this
mutual
def Yhx (g : List Int -> List Int) : YS -> YS
 | ⟨k, n, t, s, l⟩ => ⟨k, n, t, if k = 1 then g s else s, Y127 g l⟩
def Y127 (g : List Int -> List Int) : List YS -> List YS
 | [] => []
 | x :: r => Yhx g x :: Y127 g r
end
theorem Y15v (g : List Int -> List Int) : ∀ l, Y127 g l = l.map (Yhx g)
 | [] => rfl
 | x :: r => by rw [Y127, Y15v g r]; rfl
theorem Yve (g : List Int -> List Int) (s : YS) : Yhx g s = ⟨s.kind, s.number, s.text, if s.kind = 1 then g s.scopes else s.scopes, s.items.map (Yhx g)⟩ := by cases s; simp only [Yhx, Y15v]
theorem Yy6 (f h : YS -> Nat) (g : YS -> YS) : ∀ L : List YS, (∀ x ∈ L, f (g x) <= h x) -> Yhe f (L.map g) <= Yhe h L
 | [], _ => Nat.le_refl _
 | x :: r, hL => by
  have h1 := hL x List.mem_cons_self
  have h2 := Yy6 f h g r fun y hy => hL y (List.mem_cons_of_mem _ hy)
  simp only [List.map_cons, Yhe]; omega
theorem Y1c3 (g : List Int -> List Int) : ∀ s : YS, Yho (Yhx g s) = Yho s := by
 refine YS.ind fun s ih => ?_
 rw [Yid, Yid s, Yve]
 have : ∀ L : List YS, (∀ x ∈ L, Yho (Yhx g x) = Yho x) -> Yhe Yho (L.map (Yhx g)) = Yhe Yho L := by
  intro L
  induction L with
  | nil => intro _; rfl
  | cons x r ihr =>
   intro h
   simp only [List.map_cons, Yhe, h x List.mem_cons_self, ihr fun y hy => h y (List.mem_cons_of_mem _ hy)]
 simp only; rw [this s.items ih]
theorem Y1hs {g : List Int -> List Int} (hg : ∀ L, Ykf L = true -> Ykf (g L) = true) : ∀ s : YS, okY s = true -> okY (Yhx g s) = true := by
 refine YS.ind fun s ih h => ?_
 rw [Yml, Bool.and_eq_true, List.all_eq_true] at h ⊢
 rw [Yve]
 refine ⟨fun x hx => ?_, ?_⟩
 ·obtain ⟨y, hy, rfl⟩ := List.mem_map.1 hx
  exact ih y hy (h.1 y hy)
 ·have h2 := h.2
  simp only [Yn1, Bool.and_eq_true, List.length_map] at h2 ⊢
  by_cases hk : s.kind = 1
  ·rw [if_pos hk]
   exact ⟨⟨h2.1.1, hg _ h2.1.2⟩, by simp [hk]⟩
  ·rw [if_neg hk]; exact h2
theorem Y12v {g : List Int -> List Int} (hg : ∀ L, (g L).length <= L.length + 1) : ∀ s : YS, wY (Yhx g s) <= wY s + Yho s := by
 refine YS.ind fun s ih => ?_
 have h1 := Yy6 wY (fun x => wY x + Yho x) (Yhx g) s.items ih
 have h2 : Yhe (fun x => wY x + Yho x) s.items = Yhe wY s.items + Yhe Yho s.items := by
  generalize s.items = L
  induction L with
  | nil => rfl
  | cons x r ih => simp only [Yhe]; omega
 have h3 := Yjc (Yhx g s)
 have h4 := Yjc s
 have h5 := Yid s
 have h6 := hg s.scopes
 have h7 : (Yhx g s).text = s.text /\ (Yhx g s).items = s.items.map (Yhx g) /\ ((Yhx g s).scopes = g s.scopes ∨ (Yhx g s).scopes = s.scopes) := by
  rw [Yve]; refine ⟨rfl, rfl, ?_⟩
  by_cases hk : s.kind = 1
  ·exact .inl (if_pos hk)
  ·exact .inr (if_neg hk)
 rw [h7.1, h7.2.1, List.length_map] at h3
 rcases h7.2.2 with h8 | h8 <;> rw [h8] at h3 <;> omega
theorem Y1ip {n : Int} (hn : 1 <= n /\ n <= 99999) : ∀ L, Ykf L = true -> Ykf (Yi8 n L) = true := fun L h => (Yxb _).2 (Y18i hn L ((Yxb L).1 h)).1
def scU (x : YE) : Int := nxt x.scope 3
def scA (x : YE) : Int := nxS x.scope 3
def scI (x : YE) : Int := nxt (scA x) 2
def Ynj (x : YE) (s : YS) : YS := Yhx (Yib (scI x)) (Yhx (Yi8 (scU x)) s)
def ruS (x : YE) (m : Int) : YR := x.macros.getD m.toNat default
def Ykt (x : YE) (m : Int) (s : YS) : Int := if x.steps = 0 then 7 else if nxR x.scope 3 <= 99999 /\ nxR (scA x) 2 <= 99999 then (if apB x.bindings (ruS x m) (Ynj x s) = true then 0 else 6) else 8
def Ylb (x : YE) (m : Int) (s : YS) : YS := if Ykt x m s = 0 then Yhx (Yib (scI x)) (apY x.bindings (ruS x m) (Ynj x s)) else zY
set_option maxHeartbeats 4000000
abbrev Y1jl (n : Int) : SV := .one (.val (.cap (.int .i64 n)))
abbrev Y1kc (f : FuncId) (n : Int) : SV := .one (.val (.clo f (.int .i64 n)))
abbrev Z7v (L : List Int) (n : Int) : Ct := ⟨263, [], [ll (L.map Yhh), li n], [.arr true 1 ((Yi8 n L).map Yhh)], .sv (.one (.ref 0))⟩
def Z6x (L : List Int) (n : Int) : Lp Nat := .mk 42 0 (fun x => [(1, li n), (5, .one (.ref 0)), (6, hs x 1), (10, ll (L.map Yhh)), (11, li (↑(List.map Yhh
 L).length : Int)), (12, hs x 0)]) (fun x => [ho x 2]) (fun k => [.s (li (k : Int)), .s (lb (plN n (L.take k))), .o (.arr true 1 ((Yj0 n L k).map Yhh))]) (fun k => k
 <= L.length /\ L.length <= 9223372036854775807) (fun k => L.length - k) [.mk True (.exit 0) (fun x => [(1, li n), (5, .one (.ref 0)), (6, hs x 0)]) (fun x => [ho x 1]) [.s (lb
 (plN n (List.take L.length L))), .o (.arr true 1 ((Yj0 n L L.length).map Yhh))]]
theorem Zgb (L : List Int) (n : Int) (h : L.length <= 2147483600) : Lp.Sem Tryz.prog (Yht Tryz.f263 0) (Z6x L n) := Yi3 (fun k => .i ((k : Int) < (↑(List.map Yhh
 L).length : Int)) (.x (k : Int) (L.map Yhh) [cI (L.getD k 0)] (.b (!plN n (L.take k)) (.i (n <= L.getD k 0) (.i (n < L.getD k 0) (.p ((((Yj0 n L
 k).map Yhh).length + 1) * 8 <= 140737488355328) (.p ((((Yj0 n L k).map Yhh ++ [[cI n]]).length + 1) * 8 <= 140737488355328) (.r ((k : Int) + 1) (.g [4] (k + 1) [.s (li ((k : Int) +
 1)), .s (lb true), .o (.arr true 1 ((Yj0 n L k).map Yhh ++ [[cI n]] ++ [[cI (L.getD k 0)]]))])))) (.p ((((Yj0 n L k).map Yhh).length + 1) * 8 <= 140737488355328)
 (.r ((k : Int) + 1) (.g [2] (k + 1) [.s (li ((k : Int) + 1)), .s (lb true), .o (.arr true 1 ((Yj0 n L k).map Yhh ++ [[cI (L.getD k 0)]]))])))) (.p (((List.map Yhh
 (Yj0 n L k)).length + 1) * 8 <= 140737488355328) (.r ((k : Int) + 1) (.g [2] (k + 1) [.s (li ((k : Int) + 1)), .s (lb (plN n (L.take k))), .o (.arr true 1 (List.map Yhh
 (Yj0 n L k) ++ [[cI (L.getD k 0)]]))])))) (.y false (.p ((((Yj0 n L k).map Yhh).length + 1) * 8 <= 140737488355328) (.r ((k : Int) + 1) (.g [2] (k + 1) [.s (li ((k : Int)
 + 1)), .s (lb (plN n (L.take k))), .o (.arr true 1 ((Yj0 n L k).map Yhh ++ [[cI (L.getD k 0)]]))])))))) (.o 0 [0] [.s (lb (plN n (L.take k))), .o (.arr true 1
 ((Yj0 n L k).map Yhh))])) (by
 intro k h; try dsimp only [Yhj, Yhq, Z6x] at h ⊢
 have g1 := @You n L k
 have g2 := @Y17u n L k
 have g3 := @Y16t n L k
 have g4 := @Y18y n L k
 have g5 := @Y15d n L k
 have g6 := Ysk n L k
 with_reducible repeat' (first | apply And.intro | exact zR | (intro))
 all_goals ((try simp only [std, inj] at *); with_reducible and_intros)
 all_goals try first | exact zw | grind [Yhl, Yhm, Yhi])
theorem Z2z (L : List Int) (n : Int) (h : L.length <= 2147483600)  : Z7v L n := Yhv Tryz.call263 Tryz.func263 (.w (.bool false) (.z Yhh L (.l (Z6x L n) (Zgb L n
 h) [0] [.s (li 0), .s (lb false), .o (.arr true 1 [])] 0 (.t (.b (!plN n (List.take L.length L)) (.p ((((Yj0 n L L.length).map Yhh).length + 1) * 8 <= 140737488355328) (.f
 [2] [.arr true 1 ((Yj0 n L L.length).map Yhh ++ [[cI n]])] (.sv (.one (.ref 0))))) (.f [0] [.arr true 1 ((Yj0 n L L.length).map Yhh)] (.sv (.one
 (.ref 0))))) .q)))) (by
 dsimp only [Yhj, Z7v, Yhq, Z6x]
 have g1 := @Y132 n L L.length
 have g2 : Yj0 n L 0 = [] := rfl
 have g3 : plN n (L.take 0) = false := rfl
 have g4 := Ysk n L L.length
 with_reducible repeat' (first | apply And.intro | exact zR | (intro))
 all_goals ((try simp only [std, inj] at *); with_reducible and_intros)
 all_goals try first | exact zw | grind [Yhl, Yhm, Yhi])
abbrev Z7w (L : List Int) (n : Int) : Ct := ⟨271, [], [ll (L.map Yhh), li n], [.arr true 1 ((Yi8 n L).map Yhh)], .sv (.one (.ref 0))⟩
def Z6y (L : List Int) (n : Int) : Lp Nat := .mk 41 0 (fun x => [(1, li n), (5, .one (.ref 0)), (6, hs x 1), (9, ll (L.map Yhh)), (10, li (↑(L.map Yhh).length
 : Int)), (11, hs x 0)]) (fun x => [ho x 2]) (fun k => [.s (li (k : Int)), .s (lb (plN n (L.take k))), .o (.arr true 1 ((Yj0 n L k).map Yhh))]) (fun k => k <=
 L.length /\ L.length <= 9223372036854775807) (fun k => L.length - k) [.mk True (.exit 0) (fun x => [(1, li n), (5, .one (.ref 0)), (6, hs x 0)]) (fun x => [ho x 1]) [.s (lb (plN
 n (List.take L.length L))), .o (.arr true 1 ((Yj0 n L L.length).map Yhh))]]
theorem Zgc (L : List Int) (n : Int) (h : L.length <= 2147483600) : Lp.Sem Tryz.prog (Yht Tryz.f271 0) (Z6y L n) := Yi3 (fun k => .i ((k : Int) < (↑(List.map Yhh
 L).length : Int)) (.x (k : Int) (L.map Yhh) [cI (L.getD k 0)] (.b (!plN n (L.take k)) (.i (n <= L.getD k 0) (.i (L.getD k (0 : Int) ≠ n) (.p ((((Yj0 n L
 k).map Yhh).length + 1) * 8 <= 140737488355328) (.p ((((Yj0 n L k).map Yhh ++ [[cI n]]).length + 1) * 8 <= 140737488355328) (.r ((k : Int) + 1) (.g [4] (k + 1) [.s (li ((k : Int) +
 1)), .s (lb true), .o (.arr true 1 ((Yj0 n L k).map Yhh ++ [[cI n]] ++ [[cI (L.getD k 0)]]))])))) (.p ((((Yj0 n L k).map Yhh).length + 1) * 8 <= 140737488355328)
 (.r ((k : Int) + 1) (.g [2] (k + 1) [.s (li ((k : Int) + 1)), .s (lb true), .o (.arr true 1 ((Yj0 n L k).map Yhh ++ [[cI (L.getD k 0)]]))])))) (.p (((List.map Yhh
 (Yj0 n L k)).length + 1) * 8 <= 140737488355328) (.r ((k : Int) + 1) (.g [2] (k + 1) [.s (li ((k : Int) + 1)), .s (lb (plN n (L.take k))), .o (.arr true 1 (List.map Yhh
 (Yj0 n L k) ++ [[cI (L.getD k 0)]]))])))) (.y false (.p ((((Yj0 n L k).map Yhh).length + 1) * 8 <= 140737488355328) (.r ((k : Int) + 1) (.g [2] (k + 1) [.s (li ((k : Int)
 + 1)), .s (lb (plN n (L.take k))), .o (.arr true 1 ((Yj0 n L k).map Yhh ++ [[cI (L.getD k 0)]]))])))))) (.o 0 [0] [.s (lb (plN n (L.take k))), .o (.arr true 1
 ((Yj0 n L k).map Yhh))])) (by
 intro k h; try dsimp only [Yhj, Yhq, Z6y] at h ⊢
 have g1 := @You n L k
 have g2 := @Y17u n L k
 have g3 := @Y16t n L k
 have g4 := @Y18y n L k
 have g5 := @Y15d n L k
 have g6 := Ysk n L k
 with_reducible repeat' (first | apply And.intro | exact zR | (intro))
 all_goals ((try simp only [std, inj] at *); with_reducible and_intros)
 all_goals try first | exact zw | grind [Yhl, Yhm, Yhi])
theorem Zaa (L : List Int) (n : Int) (h : L.length <= 2147483600)  : Z7w L n := Yhv Tryz.call271 Tryz.func271 (.z Yhh L (.w (.ghost (.nilreg 5 true 1)) (.l (Z6y L n)
 (Zgc L n h) [0] [.s (li 0), .s (lb false), .o (.arr true 1 [])] 0 (.t (.b (!plN n (List.take L.length L)) (.p ((((Yj0 n L L.length).map Yhh).length + 1) * 8 <=
 140737488355328) (.f [2] [.arr true 1 ((Yj0 n L L.length).map Yhh ++ [[cI n]])] (.sv (.one (.ref 0))))) (.f [0] [.arr true 1 ((Yj0 n L L.length).map Yhh)]
 (.sv (.one (.ref 0))))) .q)))) (by
 dsimp only [Yhj, Z7w, Yhq, Z6y]
 have g1 := @Y132 n L L.length
 have g2 : Yj0 n L 0 = [] := rfl
 have g3 : plN n (L.take 0) = false := rfl
 have g4 := Ysk n L L.length
 with_reducible repeat' (first | apply And.intro | exact zR | (intro))
 all_goals ((try simp only [std, inj] at *); with_reducible and_intros)
 all_goals try first | exact zw | grind [Yhl, Yhm, Yhi])
def Yl0 (n : Int) (L : List Int) : List Int := L.filter fun x => decide (x ≠ n)
theorem Y10v {n : Int} {L : List Int} {k : Nat} (h : k < L.length) : Yl0 n (L.take (k + 1)) = if L.getD k 0 = n then Yl0 n (L.take k) else Yl0 n (L.take k) ++ [L.getD k 0] := by
 have e := Yi2 h
 unfold Yl0; rw [e, List.filter_append]
 show _ ++ List.filter _ [L.getD k 0] = _
 generalize L.getD k 0 = y
 by_cases hx : y = n
 ·rw [if_pos hx]; simp [hx]
 ·rw [if_neg hx]; simp [hx]
theorem Y15z (n : Int) (L : List Int) (k : Nat) : (Yl0 n (L.take k)).length <= L.length := by
 have h1 := List.length_filter_le (fun x => decide (x ≠ n)) (L.take k)
 have h2 : (L.take k).length <= L.length := by rw [List.length_take]; omega
 unfold Yl0; omega
theorem Y16s {n : Int} {L : List Int} (h : n ∈ L) : Yib n L = Yl0 n L := if_pos h
theorem Y159 {n : Int} {L : List Int} (h : ¬ n ∈ L) : Yib n L = Yi8 n L := if_neg h
abbrev Z8i (L : List Int) (n : Int) : Ct := ⟨264, [], [ll (L.map Yhh), li n], [.arr true 1 ((Yib n L).map Yhh)], .sv (.one (.ref 0))⟩
def Z5z (L : List Int) (n : Int) : Lp Nat := .mk 31 0 (fun x => [(1, li n), (5, .one (.ref 0)), (16, ll (L.map Yhh)), (17, li (↑(L.map Yhh).length : Int)),
 (18, hs x 0)]) (fun x => [ho x 1]) (fun k => [.s (li (k : Int)), .o (.arr true 1 ((Yl0 n (L.take k)).map Yhh))]) (fun k => k <= L.length /\ L.length <=
 9223372036854775807) (fun k => L.length - k) [.mk True (.exit 0) (fun x => [(5, .one (.ref 0))]) (fun x => [ho x 0]) [.o (.arr true 1 ((Yl0 n L).map Yhh))]]
theorem Zfb (L : List Int) (n : Int) (h : L.length <= 2147483600) : Lp.Sem Tryz.prog (Yht Tryz.f264 0) (Z5z L n) := Yi3 (fun k => .i ((k : Int) < (↑(List.map Yhh
 L).length : Int)) (.x (k : Int) (L.map Yhh) [cI (L.getD k 0)] (.i (L.getD k (0 : Int) ≠ n) (.p ((((Yl0 n (L.take k)).map Yhh).length + 1) * 8 <= 140737488355328)
 (.r ((k : Int) + 1) (.g [2] (k + 1) [.s (li ((k : Int) + 1)), .o (.arr true 1 ((Yl0 n (L.take k)).map Yhh ++ [[cI (L.getD k 0)]]))]))) (.r ((k : Int) + 1) (.g [0]
 (k + 1) [.s (li ((k : Int) + 1)), .o (.arr true 1 ((Yl0 n (L.take k)).map Yhh))])))) (.o 0 [0] [.o (.arr true 1 ((Yl0 n (L.take k)).map Yhh))])) (by
 intro k h; try dsimp only [Yhj, Yhq, Z5z] at h ⊢
 have g1 := @Y10v n L k
 have g2 := Y15z n L k
 have g3 : L.length <= k -> L.take k = L := fun h => List.take_of_length_le h
 with_reducible repeat' (first | apply And.intro | exact zR | (intro) | apply Z2z)
 all_goals ((try simp only [std, inj] at *); with_reducible and_intros)
 all_goals try first | with_reducible (first | apply Z2z) | (simp only [<- List.map_append]; with_reducible first | apply Z2z)
 all_goals try first | exact zw | grind [Yhl, Yhm, Yhi])
theorem Z7b (L : List Int) (n : Int) (h : L.length <= 2147483600)  : Z8i L n := Yhv Tryz.call264 Tryz.func264 (.c [.rd, .rd] (Zfx L n) (.b (!decide (n ∈ L)) (.d [.rd,
 .rd] (Z7v L n) (.f [0] [.arr true 1 ((Yi8 n L).map Yhh)] (.sv (.one (.ref 0))))) (.w (.bool false) (.z Yhh L (.l (Z5z L n) (Zfb L n h) [0] [.s
 (li 0), .o (.arr true 1 [])] 0 (.t (.f [0] [.arr true 1 ((Yl0 n L).map Yhh)] (.sv (.one (.ref 0)))) .q)))))) (by
 dsimp only [Yhj, Z8i, Yhq, Z5z]
 have g1 := @Y16s n L
 have g2 := @Y159 n L
 have g3 : Yl0 n (L.take 0) = [] := rfl
 with_reducible repeat' (first | apply And.intro | exact zR | (intro) | apply Z2z)
 all_goals ((try simp only [std, inj] at *); with_reducible and_intros)
 all_goals try with_reducible first | apply Z2z
 all_goals try first | exact zw | grind [Yhl, Yhm, Yhi])
abbrev Z8j (L : List Int) (n : Int) : Ct := ⟨307, [], [ll (L.map Yhh), li n], [.arr true 1 ((Yl0 n L).map Yhh)], .sv (.one (.ref 0))⟩
def Z60 (L : List Int) (n : Int) : Lp Nat := .mk 23 0 (fun x => [(1, li n), (5, .one (.ref 0)), (8, ll (L.map Yhh)), (9, li (↑(L.map Yhh).length : Int)),
 (10, hs x 0)]) (fun x => [ho x 1]) (fun k => [.s (li (k : Int)), .o (.arr true 1 ((Yl0 n (L.take k)).map Yhh))]) (fun k => k <= L.length /\ L.length <=
 9223372036854775807) (fun k => L.length - k) [.mk True (.exit 0) (fun x => [(5, .one (.ref 0))]) (fun x => [ho x 0]) [.o (.arr true 1 ((Yl0 n L).map Yhh))]]
theorem Zfc (L : List Int) (n : Int) (h : L.length <= 2147483600) : Lp.Sem Tryz.prog (Yht Tryz.f307 0) (Z60 L n) := Yi3 (fun k => .i ((k : Int) < (↑(List.map Yhh
 L).length : Int)) (.x (k : Int) (L.map Yhh) [cI (L.getD k 0)] (.i (L.getD k (0 : Int) ≠ n) (.p ((((Yl0 n (L.take k)).map Yhh).length + 1) * 8 <= 140737488355328)
 (.r ((k : Int) + 1) (.g [2] (k + 1) [.s (li ((k : Int) + 1)), .o (.arr true 1 ((Yl0 n (L.take k)).map Yhh ++ [[cI (L.getD k 0)]]))]))) (.r ((k : Int) + 1) (.g [0]
 (k + 1) [.s (li ((k : Int) + 1)), .o (.arr true 1 ((Yl0 n (L.take k)).map Yhh))])))) (.o 0 [0] [.o (.arr true 1 ((Yl0 n (L.take k)).map Yhh))])) (by
 intro k h; try dsimp only [Yhj, Yhq, Z60] at h ⊢
 have g1 := @Y10v n L k
 have g2 := Y15z n L k
 have g3 : L.length <= k -> L.take k = L := fun h => List.take_of_length_le h
 with_reducible repeat' (first | apply And.intro | exact zR | (intro))
 all_goals ((try simp only [std, inj] at *); with_reducible and_intros)
 all_goals try first | exact zw | grind [Yhl, Yhm, Yhi])
theorem Zed (L : List Int) (n : Int) (h : L.length <= 2147483600)  : Z8j L n := Yhv Tryz.call307 Tryz.func307 (.z Yhh L (.w (.ghost (.nilreg 5 true 1)) (.l (Z60 L
 n) (Zfc L n h) [0] [.s (li 0), .o (.arr true 1 [])] 0 (.t (.f [0] [.arr true 1 ((Yl0 n L).map Yhh)] (.sv (.one (.ref 0)))) .q)))) (by
 dsimp only [Yhj, Z8j, Yhq, Z60]
 have g3 : Yl0 n (L.take 0) = [] := rfl
 with_reducible repeat' (first | apply And.intro | exact zR | (intro))
 all_goals ((try simp only [std, inj] at *); with_reducible and_intros)
 all_goals try first | exact zw | grind [Yhl, Yhm, Yhi])
abbrev Z8k (L : List Int) (n : Int) : Ct := ⟨269, [], [ll (L.map Yhh), li n], [.arr true 1 ((Yib n L).map Yhh)], .sv (.one (.ref 0))⟩
theorem Zee (L : List Int) (n : Int) (h : L.length <= 2147483600 /\ Ykf L = true /\ 1 <= n /\ n <= 99999)  : Z8k L n := Yhv Tryz.call269 Tryz.func269 (.c [.rd] (Z1n L)
 (.b (!Ykf L) (.y true (.d [.rd] (Zi L) (.f [0] [.arr true 1 (L.map Yhh)] (.sv (.one (.ref 0)))))) (.c [.rd] (Zal n) (.i (Ymh n = 0) (.d [.rd]
 (Zi L) (.f [0] [.arr true 1 (L.map Yhh)] (.sv (.one (.ref 0))))) (.c [.rd, .rd] (Zec L n) (.i (n ∈ L) (.d [.rd, .rd] (Z8j L n) (.f [0] [.arr true
 1 ((Yl0 n L).map Yhh)] (.sv (.one (.ref 0))))) (.d [.rd, .rd] (Z7w L n) (.f [0] [.arr true 1 ((Yi8 n L).map Yhh)] (.sv (.one (.ref 0)))))))))))
 (by
 dsimp only [Yhj, Z8k]
 have g1 := @Y16s n L
 have g2 := @Y159 n L
 have g3 : 1 <= n -> n <= 99999 -> Ymh n ≠ 0 := fun a b => by unfold Ymh; rw [if_pos ⟨a, b⟩]; split <;> omega
 with_reducible repeat' (first | apply And.intro | exact zR | (intro) | apply Z1n | apply Z2 | apply Zed | apply Zaa)
 all_goals ((try simp only [std, inj] at *); with_reducible and_intros)
 all_goals try with_reducible first | apply Z1n | apply Z2 | apply Zed | apply Zaa
 all_goals try first | exact zw | grind [Yhl, Yhm, Yhi])
abbrev Z9t (L : List Int) (n : Int) : Ct := ⟨270, [], [ll (L.map Yhh), Y1jl n], [.arr true 1 ((Yi8 n L).map Yhh)], .sv (.one (.ref 0))⟩
theorem Z8l (L : List Int) (n : Int) (h : L.length <= 2147483600)  : Z9t L n := Yhv Tryz.call270 Tryz.func270 (.d [.rd, .rd] (Z7w L n) (.f [0] [.arr true 1 (List.map
 Yhh (Yi8 n L))] (.sv (.one (.ref 0))))) (by
 dsimp only [Yhj, Z9t]
 with_reducible repeat' (first | apply And.intro | exact zR | (intro) | apply Zaa)
 all_goals ((try simp only [std, inj] at *); with_reducible and_intros)
 all_goals try with_reducible first | apply Zaa
 all_goals try first | exact zw | grind [Yhl, Yhm, Yhi])
abbrev Z9u (L : List Int) (n : Int) : Ct := ⟨268, [], [ll (L.map Yhh), Y1jl n], [.arr true 1 ((Yib n L).map Yhh)], .sv (.one (.ref 0))⟩
theorem Z8m (L : List Int) (n : Int) (h : L.length <= 2147483600 /\ Ykf L = true /\ 1 <= n /\ n <= 99999)  : Z9u L n := Yhv Tryz.call268 Tryz.func268 (.d [.rd, .rd] (Z8k L
 n) (.f [0] [.arr true 1 ((Yib n L).map Yhh)] (.sv (.one (.ref 0))))) (by
 dsimp only [Yhj, Z9u]
 with_reducible repeat' (first | apply And.intro | exact zR | (intro) | apply Zee)
 all_goals ((try simp only [std, inj] at *); with_reducible and_intros)
 all_goals try with_reducible first | apply Zee
 all_goals try first | exact zw | grind [Yhl, Yhm, Yhi])
theorem Yz6 {g : List Int -> List Int} {s : YS} : (Yhx g s).kind = s.kind /\ (Yhx g s).number = s.number /\ (Yhx g s).text = s.text /\ (Yhx g s).items = s.items.map (Yhx g) /\ (s.kind = 1 -> (Yhx g s).scopes = g s.scopes) /\ (¬ s.kind = 1 -> (Yhx g s).scopes = s.scopes) := by
 rw [Yve]; exact ⟨rfl, rfl, rfl, rfl, fun h => if_pos h, fun h => if_neg h⟩
theorem Yrm {g : List Int -> List Int} {L : List YS} {k : Nat} (h : k < L.length) : (L.take (k + 1)).map (Yhx g) = (L.take k).map (Yhx g) ++ [Yhx g (L.getD k default)] := by
 rw [Yi2 h]; simp
theorem Yxt {s : YS} (h : okY s = true) : Ykf s.scopes = true := by
 rw [Yml, Bool.and_eq_true] at h
 have := h.2
 simp only [Yn1, Bool.and_eq_true] at this
 exact this.1.2
abbrev Z1q (s : YS) (n : Int) : Ct := ⟨199, [], [Yhz s, li 1, li n], Ykc (Yhx (Yi8 n) s), .sv (Yjv (Yhx (Yi8 n) s) 0)⟩
def Z2f (s : YS) (n : Int) : Lp Nat := .mk 62 0 (fun x => [(1, li 1), (2, li n), (6, .one (.ptr 0 0)), (7, .one (.ptr 1 0)), (45, ll (List.map Yhd
 s.items)), (46, li (↑(s.items.map Yhd).length : Int)), (47, hs x 0)]) (fun x => [.box [vI 0, vI 0, vS (ByteArray.mk #[]), .val (.lit (.slice none 0 0)),
 .val (.lit (.slice none 0 0))], .box [vI s.kind, vI s.number, vS s.text, .ref 2, .ref 3], ho x 2, ho x 1]) (fun k => [.s (li (k : Int)), .o (.arr true 5
 ((List.map (Yhx (Yi8 n)) (s.items.take k)).map Yhd)), .o (.arr true 1 ((Yhx (Yi8 n) s).scopes.map Yhh))]) (fun k => k <= s.items.length /\ s.items.length <=
 9223372036854775807) (fun k => s.items.length - k) [.mk True (.exit 1) (fun x => [(6, .one (.ptr 0 0)), (7, .one (.ptr 1 0))]) (fun x => [.box [vI 0, vI 0, vS
 (ByteArray.mk #[]), .val (.lit (.slice none 0 0)), .val (.lit (.slice none 0 0))], .box [vI s.kind, vI s.number, vS s.text, .ref 2, .ref 3], ho x 1, ho
 x 0]) [.o (.arr true 5 ((List.map (Yhx (Yi8 n)) s.items).map Yhd)), .o (.arr true 1 ((Yhx (Yi8 n) s).scopes.map Yhh))]]
theorem Z8n (s : YS) (n : Int) (h : wY s <= 1000000000) (ih : ∀ (z : YS), z ∈ s.items -> ∀ (n : Int), wY z <= 1000000000 -> OK (Z1q z n)) : Lp.Sem Tryz.prog
 (Yht Tryz.f199 0) (Z2f s n) := Yi3 (fun k => .i ((k : Int) < (↑(s.items.map Yhd).length : Int)) (.x (k : Int) (s.items.map Yhd) (Yhk
 (s.items.getD k default)) (.w (.draw [(6, [5, 6]), (7, [3, 13]), (9, [1])]) (.d [.rd, .rd, .rd] (Z1q (s.items.getD k default) n) (.p ((((List.map (Yhx
 (Yi8 n)) (s.items.take k)).map Yhd).length + 1) * 80 <= 140737488355328) (.r ((k : Int) + 1) (.g [0, 1, 2, 14] (k + 1) [.s (li ((k : Int) + 1)), .o (.arr true 5 (List.map Yhd
 (List.map (Yhx (Yi8 n)) (s.items.take k)) ++ [Yhk (Yhx (Yi8 n) (s.items.getD k default))])), .o (.arr true 1 ((Yhx (Yi8 n) s).scopes.map Yhh))])))))) (.o 0
 [0, 1, 2, 3] [.o (.arr true 5 ((List.map (Yhx (Yi8 n)) (s.items.take k)).map Yhd)), .o (.arr true 1 ((Yhx (Yi8 n) s).scopes.map Yhh))])) (by
 intro k h; try dsimp only [Yhj, Yhq, Z2f] at h ⊢
 have g1 := Yjc s
 have g2 := @Yi9 _ wY s.items (s.items.getD k default)
 have g3 := @Yrm (Yi8 n) s.items k
 with_reducible repeat' (first | apply And.intro | exact zR | exact ih | (intro) | apply Z8 | apply Z2z | apply ih)
 all_goals ((try simp only [std, inj] at *); with_reducible and_intros)
 all_goals try first | with_reducible (first | apply Z8 | apply Z2z | apply ih) | (simp only [<- List.map_append]; with_reducible first | apply Z8 | apply Z2z | apply ih)
 all_goals try first | exact zw | grind [Yhn, Yhl, Yhm, Yhi, Yhn])
theorem Zgd (s : YS) (n : Int) (h : wY s <= 1000000000) (ih : ∀ z ∈ s.items, ∀ (n : Int) (h : wY z <= 1000000000), Z1q z n)  : Z1q s n := Yhv Tryz.call199
 Tryz.func199 (.w (.draw [(11, [10])]) (.d [.rd] (Z3p s.scopes) (.i (s.kind = 1) (.y true (.d [.rd, .rd] (Z7v s.scopes n) (.z Yhd s.items (.w (.ghost (.nilbox 10 4
 true 5)) (.l (Z2f s n) (Z8n s n h ih) [1, 10, 11, 12] [.s (li 0), .o (.arr true 5 []), .o (.arr true 1 ((Yi8 n s.scopes).map Yhh))] 0 (.t (.f [2, 3]
 [.arr true 1 ((Yhx (Yi8 n) s).scopes.map Yhh), .arr true 5 ((List.map (Yhx (Yi8 n)) s.items).map Yhd)] (.sv (.agg [vI s.kind, vI s.number, vS s.text,
 .ref 0, .ref 1]))) .q)))))) (.z Yhd s.items (.w (.ghost (.nilbox 10 4 true 5)) (.l (Z2f s n) (Z8n s n h ih) [1, 10, 2, 11] [.s (li 0), .o (.arr true 5
 []), .o (.arr true 1 (s.scopes.map Yhh))] 0 (.t (.f [2, 3] [.arr true 1 ((Yhx (Yi8 n) s).scopes.map Yhh), .arr true 5 ((List.map (Yhx (Yi8
 n)) s.items).map Yhd)] (.sv (.agg [vI s.kind, vI s.number, vS s.text, .ref 0, .ref 1]))) .q))))))) (by
 dsimp only [Yhj, Z1q, Yhq, Z2f]
 have g1 := Yjc s
 have g2 := @Yz6 (Yi8 n) s
 with_reducible repeat' (first | apply And.intro | exact zR | exact ih | (intro) | apply Z8 | apply Z2z)
 all_goals ((try simp only [std, inj] at *); with_reducible and_intros)
 all_goals try with_reducible first | apply Z8 | apply Z2z | apply ih
 all_goals try first | exact zw | grind [Yhl, Yhm, Yhi])
theorem Zef (s : YS) : ∀ (n : Int) (h : wY s <= 1000000000), Z1q s n := YS.ind (P := fun s => ∀ (n : Int) (h : wY s <= 1000000000), Z1q s n) (fun s ih n h => Zgd s n h ih) s
abbrev Z1c (s : YS) (n : Int) : Ct := ⟨199, [], [Yhz s, li 2, li n], Ykc (Yhx (Yib n) s), .sv (Yjv (Yhx (Yib n) s) 0)⟩
def Z2g (s : YS) (n : Int) : Lp Nat := .mk 62 0 (fun x => [(1, li 2), (2, li n), (6, .one (.ptr 0 0)), (7, .one (.ptr 1 0)), (45, ll (List.map Yhd
 s.items)), (46, li (↑(s.items.map Yhd).length : Int)), (47, hs x 0)]) (fun x => [.box [vI 0, vI 0, vS (ByteArray.mk #[]), .val (.lit (.slice none 0 0)),
 .val (.lit (.slice none 0 0))], .box [vI s.kind, vI s.number, vS s.text, .ref 2, .ref 3], ho x 2, ho x 1]) (fun k => [.s (li (k : Int)), .o (.arr true 5
 ((List.map (Yhx (Yib n)) (s.items.take k)).map Yhd)), .o (.arr true 1 ((Yhx (Yib n) s).scopes.map Yhh))]) (fun k => k <= s.items.length /\ s.items.length <=
 9223372036854775807) (fun k => s.items.length - k) [.mk True (.exit 1) (fun x => [(6, .one (.ptr 0 0)), (7, .one (.ptr 1 0))]) (fun x => [.box [vI 0, vI 0, vS
 (ByteArray.mk #[]), .val (.lit (.slice none 0 0)), .val (.lit (.slice none 0 0))], .box [vI s.kind, vI s.number, vS s.text, .ref 2, .ref 3], ho x 1, ho
 x 0]) [.o (.arr true 5 ((List.map (Yhx (Yib n)) s.items).map Yhd)), .o (.arr true 1 ((Yhx (Yib n) s).scopes.map Yhh))]]
theorem Z8o (s : YS) (n : Int) (h : wY s <= 1000000000) (ih : ∀ (z : YS), z ∈ s.items -> ∀ (n : Int), wY z <= 1000000000 -> OK (Z1c z n)) : Lp.Sem Tryz.prog
 (Yht Tryz.f199 0) (Z2g s n) := Yi3 (fun k => .i ((k : Int) < (↑(s.items.map Yhd).length : Int)) (.x (k : Int) (s.items.map Yhd) (Yhk
 (s.items.getD k default)) (.w (.draw [(6, [5, 6]), (7, [3, 13]), (9, [1])]) (.d [.rd, .rd, .rd] (Z1c (s.items.getD k default) n) (.p ((((List.map (Yhx
 (Yib n)) (s.items.take k)).map Yhd).length + 1) * 80 <= 140737488355328) (.r ((k : Int) + 1) (.g [0, 1, 2, 14] (k + 1) [.s (li ((k : Int) + 1)), .o (.arr true 5 (List.map Yhd
 (List.map (Yhx (Yib n)) (s.items.take k)) ++ [Yhk (Yhx (Yib n) (s.items.getD k default))])), .o (.arr true 1 ((Yhx (Yib n) s).scopes.map Yhh))])))))) (.o 0
 [0, 1, 2, 3] [.o (.arr true 5 ((List.map (Yhx (Yib n)) (s.items.take k)).map Yhd)), .o (.arr true 1 ((Yhx (Yib n) s).scopes.map Yhh))])) (by
 intro k h; try dsimp only [Yhj, Yhq, Z2g] at h ⊢
 have g1 := Yjc s
 have g2 := @Yi9 _ wY s.items (s.items.getD k default)
 have g3 := @Yrm (Yib n) s.items k
 with_reducible repeat' (first | apply And.intro | exact zR | exact ih | (intro) | apply Z8 | apply Z7b | apply ih)
 all_goals ((try simp only [std, inj] at *); with_reducible and_intros)
 all_goals try first | with_reducible (first | apply Z8 | apply Z7b | apply ih) | (simp only [<- List.map_append]; with_reducible first | apply Z8 | apply Z7b | apply ih)
 all_goals try first | exact zw | grind [Yhn, Yhl, Yhm, Yhi, Yhn])
theorem Zge (s : YS) (n : Int) (h : wY s <= 1000000000) (ih : ∀ z ∈ s.items, ∀ (n : Int) (h : wY z <= 1000000000), Z1c z n)  : Z1c s n := Yhv Tryz.call199
 Tryz.func199 (.w (.draw [(11, [10])]) (.d [.rd] (Z3p s.scopes) (.i (s.kind = 1) (.y false (.y true (.d [.rd, .rd] (Z8i s.scopes n) (.z Yhd s.items (.w (.ghost
 (.nilbox 10 4 true 5)) (.l (Z2g s n) (Z8o s n h ih) [1, 10, 11, 12] [.s (li 0), .o (.arr true 5 []), .o (.arr true 1 ((Yib n s.scopes).map Yhh))] 0
 (.t (.f [2, 3] [.arr true 1 ((Yhx (Yib n) s).scopes.map Yhh), .arr true 5 ((List.map (Yhx (Yib n)) s.items).map Yhd)] (.sv (.agg [vI s.kind, vI
 s.number, vS s.text, .ref 0, .ref 1]))) .q))))))) (.z Yhd s.items (.w (.ghost (.nilbox 10 4 true 5)) (.l (Z2g s n) (Z8o s n h ih) [1, 10, 2, 11] [.s (li
 0), .o (.arr true 5 []), .o (.arr true 1 (s.scopes.map Yhh))] 0 (.t (.f [2, 3] [.arr true 1 ((Yhx (Yib n) s).scopes.map Yhh), .arr true 5 (List.map Yhd
 (List.map (Yhx (Yib n)) s.items))] (.sv (.agg [vI s.kind, vI s.number, vS s.text, .ref 0, .ref 1]))) .q))))))) (by
 dsimp only [Yhj, Z1c, Yhq, Z2g]
 have g1 := Yjc s
 have g2 := @Yz6 (Yib n) s
 with_reducible repeat' (first | apply And.intro | exact zR | exact ih | (intro) | apply Z8 | apply Z7b)
 all_goals ((try simp only [std, inj] at *); with_reducible and_intros)
 all_goals try with_reducible first | apply Z8 | apply Z7b | apply ih
 all_goals try first | exact zw | grind [Yhl, Yhm, Yhi])
theorem Zeg (s : YS) : ∀ (n : Int) (h : wY s <= 1000000000), Z1c s n := YS.ind (P := fun s => ∀ (n : Int) (h : wY s <= 1000000000), Z1c s n) (fun s ih n h => Zge s n h ih) s
abbrev Z1r (s : YS) (n : Int) : Ct := ⟨204, [], [Yhz s, Y1kc 270 n], Ykc (Yhx (Yi8 n) s), .sv (Yjv (Yhx (Yi8 n) s) 0)⟩
def Z2h (s : YS) (n : Int) : Lp Nat := .mk 43 0 (fun x => [(1, .one (.val (.clo 270 (.int .i64 n)))), (4, .one (.ptr 0 0)), (5, .one (.ptr
 1 0)), (27, ll (s.items.map Yhd)), (28, li (↑(s.items.map Yhd).length : Int)), (29, hs x 0)]) (fun x => [.box [vI 0, vI 0, vS (ByteArray.mk #[]), .val
 (.lit (.slice none 0 0)), .val (.lit (.slice none 0 0))], .box [vI s.kind, vI s.number, vS s.text, .ref 2, .ref 3], ho x 2, ho x 1]) (fun k => [.s (li
 (k : Int)), .o (.arr true 5 ((List.map (Yhx (Yi8 n)) (s.items.take k)).map Yhd)), .o (.arr true 1 ((Yhx (Yi8 n) s).scopes.map Yhh))]) (fun k => k <=
 s.items.length /\ s.items.length <= 9223372036854775807) (fun k => s.items.length - k) [.mk True (.exit 0) (fun x => [(4, .one (.ptr 0 0)), (5, .one (.ptr 1 0))]) (fun x =>
 [.box [vI 0, vI 0, vS (ByteArray.mk #[]), .val (.lit (.slice none 0 0)), .val (.lit (.slice none 0 0))], .box [vI s.kind, vI s.number, vS s.text, .ref
 2, .ref 3], ho x 1, ho x 0]) [.o (.arr true 5 ((List.map (Yhx (Yi8 n)) s.items).map Yhd)), .o (.arr true 1 ((Yhx (Yi8 n) s).scopes.map Yhh))]]
theorem Z8p (s : YS) (n : Int) (h : wY s <= 1000000000) (ih : ∀ (z : YS), z ∈ s.items -> ∀ (n : Int), wY z <= 1000000000 -> OK (Z1r z n)) : Lp.Sem Tryz.prog
 (Yht Tryz.f204 0) (Z2h s n) := Yi3 (fun k => .i ((k : Int) < (↑(s.items.map Yhd).length : Int)) (.x (k : Int) (s.items.map Yhd) (Yhk
 (s.items.getD k default)) (.w (.draw [(5, [5, 6]), (6, [3, 13]), (8, [1])]) (.d [.rd, .rd] (Z1r (s.items.getD k default) n) (.p ((((List.map (Yhx (Yi8 n))
 (s.items.take k)).map Yhd).length + 1) * 80 <= 140737488355328) (.r ((k : Int) + 1) (.g [0, 1, 2, 14] (k + 1) [.s (li ((k : Int) + 1)), .o (.arr true 5 ((List.map
 (Yhx (Yi8 n)) (s.items.take k)).map Yhd ++ [Yhk (Yhx (Yi8 n) (s.items.getD k default))])), .o (.arr true 1 ((Yhx (Yi8 n) s).scopes.map Yhh))])))))) (.o 0 [0, 1, 2,
 3] [.o (.arr true 5 ((List.map (Yhx (Yi8 n)) (s.items.take k)).map Yhd)), .o (.arr true 1 ((Yhx (Yi8 n) s).scopes.map Yhh))])) (by
 intro k h; try dsimp only [Yhj, Yhq, Z2h] at h ⊢
 have g1 := Yjc s
 have g2 := @Yi9 _ wY s.items (s.items.getD k default)
 have g3 := @Yrm (Yi8 n) s.items k
 with_reducible repeat' (first | apply And.intro | exact zR | exact ih | (intro) | apply Z2 | apply Z8l | apply ih)
 all_goals ((try simp only [std, inj] at *); with_reducible and_intros)
 all_goals try first | with_reducible (first | apply Z2 | apply Z8l | apply ih) | (simp only [<- List.map_append]; with_reducible first | apply Z2 | apply Z8l | apply ih)
 all_goals try first | exact zw | grind [Yhn, Yhl, Yhm, Yhi, Yhn])
theorem Zgf (s : YS) (n : Int) (h : wY s <= 1000000000) (ih : ∀ z ∈ s.items, ∀ (n : Int) (h : wY z <= 1000000000), Z1r z n)  : Z1r s n := Yhv Tryz.call204
 Tryz.func204 (.w (.draw [(11, [10])]) (.d [.rd] (Zi s.scopes) (.i (s.kind = 1) (.d [.rd, .rd] (Z9t s.scopes n) (.z Yhd s.items (.w (.ghost (.nilbox 10 4 true 5))
 (.l (Z2h s n) (Z8p s n h ih) [1, 10, 11, 12] [.s (li 0), .o (.arr true 5 []), .o (.arr true 1 ((Yi8 n s.scopes).map Yhh))] 0 (.t (.f [2, 3] [.arr
 true 1 ((Yhx (Yi8 n) s).scopes.map Yhh), .arr true 5 ((List.map (Yhx (Yi8 n)) s.items).map Yhd)] (.sv (.agg [vI s.kind, vI s.number, vS s.text, .ref 0,
 .ref 1]))) .q))))) (.z Yhd s.items (.w (.ghost (.nilbox 10 4 true 5)) (.l (Z2h s n) (Z8p s n h ih) [1, 10, 2, 11] [.s (li 0), .o (.arr true 5 []), .o
 (.arr true 1 (s.scopes.map Yhh))] 0 (.t (.f [2, 3] [.arr true 1 ((Yhx (Yi8 n) s).scopes.map Yhh), .arr true 5 ((List.map (Yhx (Yi8 n))
 s.items).map Yhd)] (.sv (.agg [vI s.kind, vI s.number, vS s.text, .ref 0, .ref 1]))) .q))))))) (by
 dsimp only [Yhj, Z1r, Yhq, Z2h]
 have g1 := Yjc s
 have g2 := @Yz6 (Yi8 n) s
 with_reducible repeat' (first | apply And.intro | exact zR | exact ih | (intro) | apply Z2 | apply Z8l)
 all_goals ((try simp only [std, inj] at *); with_reducible and_intros)
 all_goals try with_reducible first | apply Z2 | apply Z8l | apply ih
 all_goals try first | exact zw | grind [Yhl, Yhm, Yhi])
theorem Zeh (s : YS) : ∀ (n : Int) (h : wY s <= 1000000000), Z1r s n := YS.ind (P := fun s => ∀ (n : Int) (h : wY s <= 1000000000), Z1r s n) (fun s ih n h => Zgf s n h ih) s
abbrev Z1s (s : YS) (n : Int) : Ct := ⟨204, [], [Yhz s, Y1kc 268 n], Ykc (Yhx (Yib n) s), .sv (Yjv (Yhx (Yib n) s) 0)⟩
def Z2i (s : YS) (n : Int) : Lp Nat := .mk 43 0 (fun x => [(1, .one (.val (.clo 268 (.int .i64 n)))), (4, .one (.ptr 0 0)), (5, .one (.ptr
 1 0)), (27, ll (s.items.map Yhd)), (28, li (↑(s.items.map Yhd).length : Int)), (29, hs x 0)]) (fun x => [.box [vI 0, vI 0, vS (ByteArray.mk #[]), .val
 (.lit (.slice none 0 0)), .val (.lit (.slice none 0 0))], .box [vI s.kind, vI s.number, vS s.text, .ref 2, .ref 3], ho x 2, ho x 1]) (fun k => [.s (li
 (k : Int)), .o (.arr true 5 ((List.map (Yhx (Yib n)) (s.items.take k)).map Yhd)), .o (.arr true 1 ((Yhx (Yib n) s).scopes.map Yhh))]) (fun k => k <=
 s.items.length /\ s.items.length <= 9223372036854775807) (fun k => s.items.length - k) [.mk True (.exit 0) (fun x => [(4, .one (.ptr 0 0)), (5, .one (.ptr 1 0))]) (fun x =>
 [.box [vI 0, vI 0, vS (ByteArray.mk #[]), .val (.lit (.slice none 0 0)), .val (.lit (.slice none 0 0))], .box [vI s.kind, vI s.number, vS s.text, .ref
 2, .ref 3], ho x 1, ho x 0]) [.o (.arr true 5 ((List.map (Yhx (Yib n)) s.items).map Yhd)), .o (.arr true 1 ((Yhx (Yib n) s).scopes.map Yhh))]]
theorem Z8q (s : YS) (n : Int) (h : wY s <= 1000000000 /\ okY s = true /\ 1 <= n /\ n <= 99999) (ih : ∀ (z : YS), z ∈ s.items -> ∀ (n : Int), wY z <= 1000000000 /\ okY z =
 true /\ 1 <= n /\ n <= 99999 -> OK (Z1s z n)) : Lp.Sem Tryz.prog (Yht Tryz.f204 0) (Z2i s n) := Yi3 (fun k => .i ((k : Int) < (↑(s.items.map Yhd).length :
 Int)) (.x (k : Int) (s.items.map Yhd) (Yhk (s.items.getD k default)) (.w (.draw [(5, [5, 6]), (6, [3, 13]), (8, [1])]) (.d [.rd, .rd] (Z1s (s.items.getD k
 default) n) (.p ((((List.map (Yhx (Yib n)) (s.items.take k)).map Yhd).length + 1) * 80 <= 140737488355328) (.r ((k : Int) + 1) (.g [0, 1, 2, 14] (k + 1) [.s (li
 ((k : Int) + 1)), .o (.arr true 5 ((List.map (Yhx (Yib n)) (s.items.take k)).map Yhd ++ [Yhk (Yhx (Yib n) (s.items.getD k default))])), .o (.arr true 1
 ((Yhx (Yib n) s).scopes.map Yhh))])))))) (.o 0 [0, 1, 2, 3] [.o (.arr true 5 ((List.map (Yhx (Yib n)) (s.items.take k)).map Yhd)), .o (.arr true 1
 ((Yhx (Yib n) s).scopes.map Yhh))])) (by
 intro k h; try dsimp only [Yhj, Yhq, Z2i] at h ⊢
 have g1 := Yjc s
 have g2 := @Yi9 _ wY s.items (s.items.getD k default)
 have g3 := @Yrm (Yib n) s.items k
 have g4 := fun h => @Yla s h (s.items.getD k default)
 with_reducible repeat' (first | apply And.intro | exact zR | exact ih | (intro) | apply Z2 | apply Z8m | apply ih)
 all_goals ((try simp only [std, inj] at *); with_reducible and_intros)
 all_goals try first | with_reducible (first | apply Z2 | apply Z8m | apply ih) | (simp only [<- List.map_append]; with_reducible first | apply Z2 | apply Z8m | apply ih)
 all_goals try first | exact zw | grind [Yhn, Yhl, Yhm, Yhi, Yhn])
theorem Zgg (s : YS) (n : Int) (h : wY s <= 1000000000 /\ okY s = true /\ 1 <= n /\ n <= 99999) (ih : ∀ z ∈ s.items, ∀ (n : Int) (h : wY z <= 1000000000 /\ okY z = true /\ 1 <= n /\
 n <= 99999), Z1s z n)  : Z1s s n := Yhv Tryz.call204 Tryz.func204 (.w (.draw [(11, [10])]) (.d [.rd] (Zi s.scopes) (.i (s.kind = 1) (.d [.rd, .rd] (Z9u
 s.scopes n) (.z Yhd s.items (.w (.ghost (.nilbox 10 4 true 5)) (.l (Z2i s n) (Z8q s n h ih) [1, 10, 11, 12] [.s (li 0), .o (.arr true 5 []), .o (.arr
 true 1 ((Yib n s.scopes).map Yhh))] 0 (.t (.f [2, 3] [.arr true 1 ((Yhx (Yib n) s).scopes.map Yhh), .arr true 5 ((List.map (Yhx (Yib n))
 s.items).map Yhd)] (.sv (.agg [vI s.kind, vI s.number, vS s.text, .ref 0, .ref 1]))) .q))))) (.z Yhd s.items (.w (.ghost (.nilbox 10 4 true 5)) (.l (Z2i s n)
 (Z8q s n h ih) [1, 10, 2, 11] [.s (li 0), .o (.arr true 5 []), .o (.arr true 1 (s.scopes.map Yhh))] 0 (.t (.f [2, 3] [.arr true 1 ((Yhx (Yib
 n) s).scopes.map Yhh), .arr true 5 ((List.map (Yhx (Yib n)) s.items).map Yhd)] (.sv (.agg [vI s.kind, vI s.number, vS s.text, .ref 0, .ref 1]))) .q))))))) (by
 dsimp only [Yhj, Z1s, Yhq, Z2i]
 have g1 := Yjc s
 have g2 := @Yz6 (Yib n) s
 have g3 := @Yxt s
 with_reducible repeat' (first | apply And.intro | exact zR | exact ih | (intro) | apply Z2 | apply Z8m)
 all_goals ((try simp only [std, inj] at *); with_reducible and_intros)
 all_goals try with_reducible first | apply Z2 | apply Z8m | apply ih
 all_goals try first | exact zw | grind [Yhl, Yhm, Yhi])
theorem Zei (s : YS) : ∀ (n : Int) (h : wY s <= 1000000000 /\ okY s = true /\ 1 <= n /\ n <= 99999), Z1s s n := YS.ind (P := fun s => ∀ (n : Int) (h : wY s <= 1000000000 /\ okY s = true /\ 1 <= n /\ n <= 99999), Z1s s n) (fun s ih n h => Zgg s n h ih) s
abbrev Z8r (s : YS) (n : Int) : Ct := ⟨203, [], [Yhz s, li n], Ykc (Yhx (Yi8 n) s), .sv (Yjv (Yhx (Yi8 n) s) 0)⟩
theorem Zej (s : YS) (n : Int) (h : wY s <= 1000000000)  : Z8r s n := Yhv Tryz.call203 Tryz.func203 (.w (.ghost (.cap 3 1)) (.d [.rd, .rd] (Z1r s n) (.f [3, 4]
 [.arr true 1 ((Yhx (Yi8 n) s).scopes.map Yhh), .arr true 5 ((Yhx (Yi8 n) s).items.map Yhd)] (.sv (.agg [vI (Yhx (Yi8 n) s).kind, vI (Yhx (Yi8 n)
 s).number, vS (Yhx (Yi8 n) s).text, .ref 0, .ref 1]))))) (by
 dsimp only [Yhj, Z8r]
 with_reducible repeat' (first | apply And.intro | exact zR | (intro) | apply Zeh)
 all_goals ((try simp only [std, inj] at *); with_reducible and_intros)
 all_goals try with_reducible first | apply Zeh
 all_goals try first | exact zw | grind [Yhl, Yhm, Yhi])
abbrev Z6z (s : YS) (n : Int) : Ct := ⟨202, [], [Yhz s, li n], Ykc (Yhx (Yib n) s), .sv (Yjv (Yhx (Yib n) s) 0)⟩
theorem Zek (s : YS) (n : Int) (h : wY s <= 1000000000 /\ okY s = true /\ 1 <= n /\ n <= 99999)  : Z6z s n := Yhv Tryz.call202 Tryz.func202 (.w (.ghost (.cap 3 1)) (.d [.rd,
 .rd] (Z1s s n) (.f [3, 4] [.arr true 1 ((Yhx (Yib n) s).scopes.map Yhh), .arr true 5 ((Yhx (Yib n) s).items.map Yhd)] (.sv (.agg [vI (Yhx (Yib
 n) s).kind, vI (Yhx (Yib n) s).number, vS (Yhx (Yib n) s).text, .ref 0, .ref 1]))))) (by
 dsimp only [Yhj, Z6z]
 with_reducible repeat' (first | apply And.intro | exact zR | (intro) | apply Zei)
 all_goals ((try simp only [std, inj] at *); with_reducible and_intros)
 all_goals try with_reducible first | apply Zei
 all_goals try first | exact zw | grind [Yhl, Yhm, Yhi])
def cdN (s k : Int) : Int := if nxR s k <= 99999 then 0 else 8
abbrev Z52 (x : YE) (z : Int) (kind : Int) : Ct := ⟨201, stI x z, [.one (.ptr 0 0), li kind], [.box [.ref 1, .ref 2, vI (nxS x.scope kind), vI x.vari, vI x.steps, vI z], .arr true 4 (x.bindings.map Yhg), .arr true 3 (x.macros.map Yhp)], .tup [li (nxt x.scope kind), li (cdN x.scope kind)]⟩
theorem Zbp (x : YE) (z kind : Int) (h : 0 <= x.scope /\ x.scope <= 99999 /\ 1 <= kind /\ kind <= 3)  : Z52 x z kind := Yhv Tryz.call201 Tryz.func201 (.d [.rd, .rd]
 (Z8d x.scope kind) (.i (nxt x.scope kind = 0) (.f [] [.box [.ref 1, .ref 2, vI x.scope, vI x.vari, vI x.steps, vI z], .arr true 4 (x.bindings.map Yhg),
 .arr true 3 (x.macros.map Yhp)] (.tup [li 0, li 8])) (.f [] [.box [.ref 1, .ref 2, vI (nxt x.scope kind), vI x.vari, vI x.steps, vI z], .arr true 4 (List.map
 Yhg x.bindings), .arr true 3 (x.macros.map Yhp)] (.tup [li (nxt x.scope kind), li 0])))) (by
 dsimp only [Yhj, Z52]
 have g2 := @Ynm x.scope kind
 with_reducible repeat' (first | apply And.intro | exact zR | (intro) | apply Zea)
 all_goals ((try simp only [std, inj] at *); with_reducible and_intros)
 all_goals try with_reducible first | apply Zea
 all_goals try first | exact zw | grind [nxt, nxS, cdN, Yhl, Yhm, Yhi])
def hdS (s : YS) : Bool := decide (s.kind = 0) && !decide ((s.items.length : Int) = 0) && decide ((s.items.getD 0 default).kind = 1)
def hdF (x : YE) (s : YS) : Bool := hdS s && decide (rsC x.bindings (s.items.getD 0 default).text (s.items.getD 0 default).scopes = 1)
def hdR (x : YE) (s : YS) : YB := if hdS s = true then rsB x.bindings (s.items.getD 0 default).text (s.items.getD 0 default).scopes else ⟨mkS [], [], 0, 0⟩
def hdM (x : YE) (s : YS) : Int := if hdF x s = true /\ (hdR x s).kind = 4 then (hdR x s).number else -1
abbrev Z7x (x : YE) (z : Int) (s : YS) : Ct := ⟨121, stI x z, [.one (.ptr 0 0), Yhz s], stI x z, .sv (li (hdM x s))⟩
theorem Zda (x : YE) (z : Int) (s : YS) (h : x.bindings.length <= 1048577 /\ Yhe wB x.bindings <= 1048577)  : Z7x x z s := Yhv Tryz.call121 Tryz.func121 (.i
 (s.kind ≠ 0) (.y true (.y true (.f [] [.box [.ref 1, .ref 2, vI x.scope, vI x.vari, vI x.steps, vI z], .arr true 4 (x.bindings.map Yhg), .arr true 3 (List.map
 Yhp x.macros)] (.sv (li (-1 : Int)))))) (.z Yhd s.items (.i ((↑(s.items.map Yhd).length : Int) = 0) (.y true (.f [] [.box [.ref 1, .ref 2, vI x.scope, vI
 x.vari, vI x.steps, vI z], .arr true 4 (x.bindings.map Yhg), .arr true 3 (x.macros.map Yhp)] (.sv (li (-1 : Int))))) (.w (.cells (Yhk (s.items.getD 0
 default))) (.p ((0 : Int) <= 0 /\ (s.items.map Yhd)[0]? = some (Yhk (s.items.getD 0 default))) (.i ((s.items.getD 0 default).kind ≠ 1) (.f [] [.box [.ref 1, .ref
 2, vI x.scope, vI x.vari, vI x.steps, vI z], .arr true 4 (x.bindings.map Yhg), .arr true 3 (x.macros.map Yhp)] (.sv (li (-1 : Int)))) (.w (.draw [(14,
 [12])]) (.w (.cells (Yhk (s.items.getD 0 default))) (.p ((0 : Int) <= 0 /\ (s.items.map Yhd)[0]? = some (Yhk (s.items.getD 0 default))) (.d [.rd, .rd] (Z6e
 x.bindings (s.items.getD 0 default)) (.i (rsC x.bindings (s.items.getD 0 default).text (s.items.getD 0 default).scopes ≠ 1) (.y true (.f [] [.box [.ref 1, .ref 2, vI
 x.scope, vI x.vari, vI x.steps, vI z], .arr true 4 (x.bindings.map Yhg), .arr true 3 (x.macros.map Yhp)] (.sv (li (-1 : Int))))) (.i ((rsB x.bindings
 (s.items.getD 0 default).text (s.items.getD 0 default).scopes).kind ≠ 4) (.f [] [.box [.ref 1, .ref 2, vI x.scope, vI x.vari, vI x.steps, vI z], .arr true 4 (List.map
 Yhg x.bindings), .arr true 3 (x.macros.map Yhp)] (.sv (li (-1 : Int)))) (.f [] [.box [.ref 1, .ref 2, vI x.scope, vI x.vari, vI x.steps, vI z], .arr true
 4 (x.bindings.map Yhg), .arr true 3 (x.macros.map Yhp)] (.sv (li (rsB x.bindings (s.items.getD 0 default).text (s.items.getD 0
 default).scopes).number))))))))))))))) (by
 dsimp only [Yhj, Z7x]
 with_reducible repeat' (first | apply And.intro | exact zR | (intro) | apply Za5)
 all_goals ((try simp only [std, inj] at *); with_reducible and_intros)
 all_goals try with_reducible first | apply Za5
 all_goals try first | exact zw | grind [hdM, hdF, hdR, hdS, Yhl, Yhm, Yhi])
abbrev Z8s (L : List YB) (y : YS) : Ct := ⟨197, [], [ll (L.map Yhg), Yhz y], [], .tup [.agg [vS (rsB L y.text y.scopes).text, .top, vI (rsB L y.text y.scopes).kind, vI (rsB L y.text y.scopes).number], li (rsC L y.text y.scopes)]⟩
def Z61 (L : List YB) (y : YS) : Lp Nat := .mk 56 0 (fun x => [(4, .one (.ptr 0 0)), (7, .one (.ptr 1 0)), (37, ll ((cnd L y.text
 y.scopes).map Yhg)), (38, li (↑((cnd L y.text y.scopes).map Yhg).length : Int)), (39, hs x 0)]) (fun x => [.box [vS (ByteArray.mk #[]), .val (.lit (.slice none 0
 0)), vI 0, vI 0], .box (vals (Yhy (Yit (cnd L y.text y.scopes))))]) (fun k => [.s (li (k : Int))]) (fun k => k <= (cnd L y.text y.scopes).length /\ (cnd L y.text
 y.scopes).length <= 9223372036854775807 /\ 0 < (cnd L y.text y.scopes).length /\ Ysy (cnd L y.text y.scopes) k = true) (fun k => (cnd L y.text y.scopes).length - k) [.mk (amb (cnd L
 y.text y.scopes) = true) (.exit 2) (fun x => [(4, .one (.ptr 0 0)), (7, .one (.ptr 1 0))]) (fun x => [.box [vS (ByteArray.mk #[]), .val (.lit (.slice none 0
 0)), vI 0, vI 0], .box (vals (Yhy (Yit (cnd L y.text y.scopes))))]) [], .mk (amb (cnd L y.text y.scopes) = false) .ret (fun x => [(4, .one (.ptr 0 0)), (5, hs x 1)])
 (fun x => [ho x 0]) [.o (.box [vS (mkS []), .val (.lit (.slice none 0 0)), vI 0, vI 0]), .s (li 2)]]
def Z62 (L : List YB) (y : YS) : Lp Nat := .mk 56 0 (fun x => [(4, .one (.ptr 0 0)), (6, ll ((cnd L y.text y.scopes).map Yhg)), (7, .one (.ptr 1
 0)), (22, ll ((cnd L y.text y.scopes).map Yhg)), (23, li (↑((cnd L y.text y.scopes).map Yhg).length : Int)), (24, hs x 0)]) (fun x => [.box [vS (ByteArray.mk
 #[]), .val (.lit (.slice none 0 0)), vI 0, vI 0], ho x 1]) (fun k => [.s (li (k : Int)), .o (.box (vals (Yhy (List.foldl Ykz ((cnd L y.text y.scopes).getD 0
 default) (List.take k (cnd L y.text y.scopes))))))]) (fun k => k <= (cnd L y.text y.scopes).length /\ (cnd L y.text y.scopes).length <= 9223372036854775807 /\ 0 < (cnd L y.text
 y.scopes).length) (fun k => (cnd L y.text y.scopes).length - k) [.mk True (.exit 0) (fun x => [(4, .one (.ptr 0 0)), (6, ll ((cnd L y.text y.scopes).map Yhg)), (7,
 .one (.ptr 1 0))]) (fun x => [.box [vS (ByteArray.mk #[]), .val (.lit (.slice none 0 0)), vI 0, vI 0], ho x 0]) [.o (.box (vals (Yhy (Yit (cnd L y.text
 y.scopes)))))]]
theorem Zfd (L : List YB) (y : YS) (h : L.length <= 1048577 /\ Yhe wB L <= 1048577) : Lp.Sem Tryz.prog (Yht Tryz.f197 1) (Z61 L y) := Yi3 (fun k => .i
 ((k : Int) < (↑((cnd L y.text y.scopes).map Yhg).length : Int)) (.x (k : Int) ((cnd L y.text y.scopes).map Yhg) (Yhy ((cnd L y.text y.scopes).getD k
 default)) (.c [.rd, .rd] (Zd3 ((cnd L y.text y.scopes).getD k default).scopes (Yit (cnd L y.text y.scopes)).scopes) (.b (!Yku ((cnd L y.text y.scopes).getD k default).scopes
 (Yit (cnd L y.text y.scopes)).scopes) (.o 1 [0] [.o (.box [vS (ByteArray.mk #[]), .val (.lit (.slice none 0 0)), vI 0, vI 0]), .s (li 2)]) (.r ((k : Int) + 1) (.g
 [0, 1] (k + 1) [.s (li ((k : Int) + 1))]))))) (.o 0 [0, 1] [])) (by
 intro k h; try dsimp only [Yhj, Yhq, Z61] at h ⊢
 have g1 := @Y14n (cnd L y.text y.scopes) k
 have g2 := @Y11g (cnd L y.text y.scopes) k
 have g3 := @Y161 (cnd L y.text y.scopes) k
 with_reducible repeat' (first | apply And.intro | exact zR | (intro) | apply Z14 | apply Z9)
 all_goals ((try simp only [std, inj] at *); with_reducible and_intros)
 all_goals try with_reducible first | apply Z14 | apply Z9
 all_goals try first | exact zw | grind [Yhl, Yhm, Yhi])
theorem Zfe (L : List YB) (y : YS) (h : L.length <= 1048577 /\ Yhe wB L <= 1048577) : Lp.Sem Tryz.prog (Yht Tryz.f197 0) (Z62 L y) := Yi3 (fun k => .i
 ((k : Int) < (↑((cnd L y.text y.scopes).map Yhg).length : Int)) (.x (k : Int) ((cnd L y.text y.scopes).map Yhg) (Yhy ((cnd L y.text y.scopes).getD k
 default)) (.z Yhh ((cnd L y.text y.scopes).getD k default).scopes (.z Yhh (List.foldl Ykz ((cnd L y.text y.scopes).getD 0 default) (List.take k (cnd L y.text y.scopes))).scopes
 (.i ((↑((List.foldl Ykz ((cnd L y.text y.scopes).getD 0 default) (List.take k (cnd L y.text y.scopes))).scopes.map Yhh).length : Int) < (↑(((cnd L y.text
 y.scopes).getD k default).scopes.map Yhh).length : Int)) (.r ((k : Int) + 1) (.g [0, 1] (k + 1) [.s (li ((k : Int) + 1)), .o (.box (vals (Yhy ((cnd L y.text y.scopes).getD k
 default))))])) (.r ((k : Int) + 1) (.g [0, 1] (k + 1) [.s (li ((k : Int) + 1)), .o (.box (vals (Yhy (List.foldl Ykz ((cnd L y.text y.scopes).getD 0 default) (List.take k
 (cnd L y.text y.scopes))))))])))))) (.o 0 [0, 1] [.o (.box (vals (Yhy (List.foldl Ykz ((cnd L y.text y.scopes).getD 0 default) (List.take k (cnd L y.text y.scopes))))))]))
 (by
 intro k h; try dsimp only [Yhj, Yhq, Z62] at h ⊢
 have g1 := @Ync _ _ _ Ykz ((cnd L y.text y.scopes).getD 0 default) (cnd L y.text y.scopes) k
 have g2 : ∀ a b, Ykz a b = if a.scopes.length < b.scopes.length then b else a := fun _ _ => rfl
 have g3 : (cnd L y.text y.scopes).length <= k -> (cnd L y.text y.scopes).take k = cnd L y.text y.scopes := fun h => List.take_of_length_le h
 have g4 : Yit (cnd L y.text y.scopes) = (cnd L y.text y.scopes).foldl Ykz ((cnd L y.text y.scopes).getD 0 default) := rfl
 with_reducible repeat' (first | apply And.intro | exact zR | (intro) | apply Z14 | apply Z9)
 all_goals ((try simp only [std, inj] at *); with_reducible and_intros)
 all_goals try with_reducible first | apply Z14 | apply Z9
 all_goals try first | exact zw | grind [Yhl, Yhm, Yhi])
theorem Zel (L : List YB) (y : YS) (h : L.length <= 1048577 /\ Yhe wB L <= 1048577)  : Z8s L y := Yhv Tryz.call197 Tryz.func197 (.d [.rd, .rd] (Z6p L y) (.z
 Yhg (cnd L y.text y.scopes) (.i ((↑((cnd L y.text y.scopes).map Yhg).length : Int) = 0) (.w (.ghost (.blank 1 1)) (.f [] [] (.tup [.agg [vS (ByteArray.mk #[]),
 .top, vI 0, vI 0], li 0]))) (.w (.cells (Yhy ((cnd L y.text y.scopes).getD 0 default))) (.p ((0 : Int) <= 0 /\ ((cnd L y.text y.scopes).map Yhg)[0]? = some
 (Yhy ((cnd L y.text y.scopes).getD 0 default))) (.z Yhg (cnd L y.text y.scopes) (.l (Z62 L y) (Zfe L y h) [1, 2] [.s (li 0), .o (.box (vals (Yhy
 ((cnd L y.text y.scopes).getD 0 default))))] 0 (.t (.z Yhg (cnd L y.text y.scopes) (.l (Z61 L y) (Zfd L y h) [0, 1] [.s (li 0)] 0 (.t (.d [.rd] (Z44
 [Yit (cnd L y.text y.scopes)]) (.p ((0 : Int) <= 0 /\ 0 < 1) (.w (.cells (Yhy (Yit (cnd L y.text y.scopes)))) (.p (some (Yhy (Yit (cnd L y.text y.scopes))) = some
 (Yhy (Yit (cnd L y.text y.scopes)))) (.w (.ghost (.blank 0 1)) (.f [] [] (.tup [.agg [vS (Yit (cnd L y.text y.scopes)).text, .top, vI (Yit (cnd L y.text
 y.scopes)).kind, vI (Yit (cnd L y.text y.scopes)).number], li 1]))))))) (.t (.w (.ghost (.blank 0 1)) (.f [] [] (.tup [.agg [vS (mkS []), .top, vI 0, vI 0], li 2]))) .q))))
 .q)))))))) (by
 dsimp only [Yhj, Z8s, Yhq, Z62, Z61]
 have g1 : 0 < (cnd L y.text y.scopes).length -> cnd L y.text y.scopes ≠ [] := fun h => List.length_pos_iff.1 h
 have g2 : (cnd L y.text y.scopes).length = 0 -> cnd L y.text y.scopes = [] := fun h => List.length_eq_zero_iff.1 h
 have g3 := @Y16a L y.text y.scopes
 have g4 : rsC L y.text y.scopes = if cnd L y.text y.scopes = [] then 0 else if amb (cnd L y.text y.scopes) = true then 1 else 2 := rfl
 have g5 : rsC L y.text y.scopes = 1 -> rsB L y.text y.scopes = Yit (cnd L y.text y.scopes) := fun h => if_pos h
 have g6 : ¬ rsC L y.text y.scopes = 1 -> rsB L y.text y.scopes = ⟨mkS [], [], 0, 0⟩ := fun h => if_neg h
 have g7 : Ysy (cnd L y.text y.scopes) 0 = true := rfl
 have g8 : ∀ b : YB, [b].getD 0 default = b := fun b => rfl
 have g9 : Yhe wB [Yit (cnd L y.text y.scopes)] = wB (Yit (cnd L y.text y.scopes)) := rfl
 with_reducible repeat' (first | apply And.intro | exact zR | (intro) | apply Z14 | apply Z9)
 all_goals ((try simp only [std, inj] at *); with_reducible and_intros)
 all_goals try with_reducible first | apply Z14 | apply Z9
 all_goals try first | exact zw | grind [Yhl, Yhm, Yhi])
abbrev Z7y (x : YE) (z : Int) (c : Int) (s : YS) : Ct := ⟨118, stO x z c, [.one (.ptr 0 0), Yhz s], stO x z c, .tup [.agg [vS (hdR x s).text, .top, vI (hdR x s).kind, vI (hdR x s).number], lb (hdF x s)]⟩
theorem Zdb (x : YE) (z c : Int) (s : YS) (h : x.bindings.length <= 1048577 /\ Yhe wB x.bindings <= 1048577)  : Z7y x z c s := Yhv Tryz.call118 Tryz.func118 (.i
 (s.kind ≠ 0) (.y true (.y true (.w (.ghost (.blank 4 1)) (.f [] [.box [.ref 1, .ref 2, vI x.scope, vI x.vari, vI x.steps, vI z, vI c], .arr true 4 (List.map Yhg
 x.bindings), .arr true 3 (x.macros.map Yhp)] (.tup [.agg [vS (ByteArray.mk #[]), .top, vI 0, vI 0], lb false]))))) (.z Yhd s.items (.i ((↑(List.map Yhd
 s.items).length : Int) = 0) (.y true (.w (.ghost (.blank 4 1)) (.f [] [.box [.ref 1, .ref 2, vI x.scope, vI x.vari, vI x.steps, vI z, vI c], .arr true 4 (List.map Yhg
 x.bindings), .arr true 3 (x.macros.map Yhp)] (.tup [.agg [vS (ByteArray.mk #[]), .top, vI 0, vI 0], lb false])))) (.w (.cells (Yhk (s.items.getD 0 default)))
 (.p ((0 : Int) <= 0 /\ (s.items.map Yhd)[0]? = some (Yhk (s.items.getD 0 default))) (.i ((s.items.getD 0 default).kind ≠ 1) (.w (.ghost (.blank 4 1)) (.f [] [.box
 [.ref 1, .ref 2, vI x.scope, vI x.vari, vI x.steps, vI z, vI c], .arr true 4 (x.bindings.map Yhg), .arr true 3 (x.macros.map Yhp)] (.tup [.agg [vS
 (ByteArray.mk #[]), .top, vI 0, vI 0], lb false]))) (.w (.draw [(14, [13])]) (.w (.cells (Yhk (s.items.getD 0 default))) (.p ((0 : Int) <= 0 /\ (s.items.map Yhd)[0]?
 = some (Yhk (s.items.getD 0 default))) (.d [.rd, .rd] (Z8s x.bindings (s.items.getD 0 default)) (.f [] [.box [.ref 1, .ref 2, vI x.scope, vI x.vari, vI x.steps, vI
 z, vI c], .arr true 4 (x.bindings.map Yhg), .arr true 3 (x.macros.map Yhp)] (.tup [.agg [vS (rsB x.bindings (s.items.getD 0 default).text (s.items.getD 0
 default).scopes).text, .top, vI (rsB x.bindings (s.items.getD 0 default).text (s.items.getD 0 default).scopes).kind, vI (rsB x.bindings (s.items.getD 0 default).text
 (s.items.getD 0 default).scopes).number], lb (decide (rsC x.bindings (s.items.getD 0 default).text (s.items.getD 0 default).scopes = 1))])))))))))))) (by
 dsimp only [Yhj, Z7y]
 with_reducible repeat' (first | apply And.intro | exact zR | (intro) | apply Zel)
 all_goals ((try simp only [std, inj] at *); with_reducible and_intros)
 all_goals try with_reducible first | apply Zel
 all_goals try first | exact zw | grind [hdF, hdR, hdS, Yhl, Yhm, Yhi])
theorem Y1bs {x : YE} {s : YS} (h : wY s <= 900000000) (h2 : Yho s <= 2000) : wY (Yhx (Yi8 (scU x)) s) <= 900002000 /\ wY (Ynj x s) <= 1000000000 := by
 have h3 := Y12v (Ysj (scU x)) s
 have h4 := Y12v (Y13t (scI x)) (Yhx (Yi8 (scU x)) s)
 have h5 := Y1c3 (Yi8 (scU x)) s
 unfold Ynj; omega
theorem Y12k {s kind : Int} (h0 : 0 <= s) (h : nxR s kind <= 99999) : 1 <= nxt s kind /\ nxt s kind <= 99999 /\ nxt s kind = nxR s kind /\ nxS s kind = nxR s kind := by
 have h1 := @Ynm s kind
 have e1 : nxt s kind = nxR s kind := if_pos h
 have e2 : nxS s kind = nxR s kind := if_pos h
 omega
theorem Y1at {B : List YB} {r : YR} {f : YS} (h : apB B r f = true) : Yi7 (apY B r f) = true := by
 unfold apB at h
 rw [Bool.and_eq_true] at h
 unfold apY; rw [if_pos h.1]
 unfold Yld; rw [if_pos h.2]
 have h2 := h.2
 simp only [Ynh, Bool.and_eq_true] at h2
 exact h2.2
theorem Y1cf {k n : Int} {t : ByteArray} {i : Int} (h : Yov k n t i = true) : t.size <= 99999 := by
 have e : ∀ u : ByteArray, u.data.toList = [] -> u.size = 0 := fun u hu => by
  have : u.data.toList.length = 0 := by rw [hu]; rfl
  simpa using this
 simp only [Yov, Bool.or_eq_true, decide_eq_true_eq] at h
 rcases h with (((h | h) | h) | h) | h
 ·have := e t h.2.2; omega
 ·have h2 := h.2.2.1
  unfold Ym4 at h2; simp only [Bool.and_eq_true, decide_eq_true_eq] at h2
  have := h2.1.1.1.2; omega
 ·have := e t h.2.2.2.1; omega
 ·have := e t h.2.2.2.1; omega
 ·have h2 := h.2.2.1
  unfold Yrb at h2; simp only [Bool.and_eq_true, decide_eq_true_eq] at h2
  have := h2.1; omega
theorem Y1hv {L : List Int} (h : Ykf L = true) : L.length <= 99999 := by
 have h1 := (Yxb L).1 h
 have : ∀ (L : List Int) (m : Int), srt L -> (∀ y ∈ L, m < y) -> 0 <= m -> (L.length : Int) + m <= 99999 ∨ L = [] := by
  intro L
  induction L with
  | nil => intro m _ _ _; exact .inr rfl
  | cons x r ih =>
   intro m hs hm h0
   obtain ⟨a1, a2, a3⟩ := hs
   have hx := hm x List.mem_cons_self
   left
   rcases ih x a3 a2 (by omega) with h | h
   ·simp only [List.length_cons]; omega
   ·subst h; simp; omega
 rcases this L 0 h1 (fun y hy => by
  have : ∀ L : List Int, srt L -> ∀ y ∈ L, 0 < y := by
   intro L
   induction L with
   | nil => intro _ y hy; cases hy
   | cons x r ih =>
    intro hs y hy
    rcases List.mem_cons.1 hy with rfl | hy
    ·have := hs.1; omega
    ·exact ih hs.2.2 y hy
  exact this L h1 y hy) (by omega) with h | h
 ·omega
 ·subst h; simp
theorem Y1kj : ∀ s : YS, okY s = true -> wY s + 1 <= 200000 * Yho s := by
 refine YS.ind fun s ih h => ?_
 have h0 := Yxt h
 rw [Yml, Bool.and_eq_true, List.all_eq_true] at h
 have h1 := Y1hv h0
 have h2 : ∀ L : List YS, (∀ x ∈ L, wY x + 1 <= 200000 * Yho x) -> L.length + Yhe wY L <= 200000 * Yhe Yho L := by
  intro L
  induction L with
  | nil => intro _; simp [Yhe]
  | cons x r ihr =>
   intro hL
   have a := hL x List.mem_cons_self
   have b := ihr fun y hy => hL y (List.mem_cons_of_mem _ hy)
   have c := Yid x
   simp only [Yhe, List.length_cons]; omega
 have h3 := h2 s.items fun x hx => ih x hx (h.1 x hx)
 have h4 : s.text.size <= 99999 := by
  have := h.2
  simp only [Yn1, Bool.and_eq_true] at this
  exact Y1cf this.1.1
 rw [Yjc, Yid]; omega
theorem Yqe {s : YS} (h : Yi7 s = true) : wY s <= 400000000 /\ Yho s <= 2000 /\ okY s = true := by
 simp only [Yi7, Bool.and_eq_true, decide_eq_true_eq] at h
 have := Y1kj s h.2
 exact ⟨by omega, by omega, h.2⟩
abbrev ccS (x : YE) : Int := if nxR (nxS x.scope 3) 2 <= 99999 then if nxR x.scope 3 <= 99999 then 0 else cdF 0 8 else cdF (if nxR x.scope 3 <= 99999 then 0 else cdF 0 8) 8
theorem Y1kk (x : YE) : ccS x = if nxR x.scope 3 <= 99999 /\ nxR (nxS x.scope 3) 2 <= 99999 then 0 else 8 := by
 unfold ccS cdF
 by_cases h1 : nxR x.scope 3 <= 99999 <;> by_cases h2 : nxR (nxS x.scope 3) 2 <= 99999 <;> simp [h1, h2]
theorem Y193 : zY.kind = 0 /\ zY.number = 0 /\ zY.text = mkS [] /\ zY.scopes = [] /\ zY.items = [] := ⟨rfl, rfl, rfl, rfl, rfl⟩
theorem Y13e {x : YE} {m : Int} {s : YS} (h : x.steps = 0) : Ykt x m s = 7 /\ Ylb x m s = zY := by
 have e : Ykt x m s = 7 := if_pos h
 exact ⟨e, if_neg (by rw [e]; decide)⟩
theorem Y11o {x : YE} {m : Int} {s : YS} (h : ¬ x.steps = 0) (h2 : ¬ (nxR x.scope 3 <= 99999 /\ nxR (nxS x.scope 3) 2 <= 99999)) : Ykt x m s = 8 /\ Ylb x m s = zY := by
 have e : Ykt x m s = 8 := by unfold Ykt; rw [if_neg h, if_neg (show ¬ (nxR x.scope 3 <= 99999 /\ nxR (scA x) 2 <= 99999) from h2)]
 exact ⟨e, if_neg (by rw [e]; decide)⟩
theorem Y14l {x : YE} {m : Int} {s : YS} (h : ¬ x.steps = 0) (h2 : nxR x.scope 3 <= 99999 /\ nxR (nxS x.scope 3) 2 <= 99999) (h3 : apB x.bindings (ruS x m) (Ynj x s) = false) : Ykt x m s = 6 /\ Ylb x m s = zY := by
 have e : Ykt x m s = 6 := by unfold Ykt; rw [if_neg h, if_pos (show nxR x.scope 3 <= 99999 /\ nxR (scA x) 2 <= 99999 from h2), if_neg (by rw [h3]; decide)]
 exact ⟨e, if_neg (by rw [e]; decide)⟩
theorem Y1bp {x : YE} {m : Int} {s : YS} (h : ¬ x.steps = 0) (h2 : nxR x.scope 3 <= 99999 /\ nxR (nxS x.scope 3) 2 <= 99999) (h3 : apB x.bindings (ruS x m) (Ynj x s) = true) : Ykt x m s = 0 /\ Ylb x m s = Yhx (Yib (nxt (nxS x.scope 3) 2)) (apY x.bindings (ruS x m) (Ynj x s)) := by
 have e : Ykt x m s = 0 := by unfold Ykt; rw [if_neg h, if_pos (show nxR x.scope 3 <= 99999 /\ nxR (scA x) 2 <= 99999 from h2), if_pos h3]
 exact ⟨e, if_pos e⟩
theorem Y1cw {s k : Int} (h0 : 0 <= s) (h1 : s <= 99999) : 0 <= nxS s k /\ nxS s k <= 99999 := by
 unfold nxS nxR; split <;> omega
theorem Y1cu {s k : Int} (h : ¬ nxR s k <= 99999) : nxS s k = s := if_neg h
theorem Y1g1 (e : Int) : cdF 0 e = e := rfl
abbrev Z7z (x : YE) (z : Int) (m : Int) (s : YS) : Ct := ⟨119, stO x z 0, [.one (.ptr 0 0), li m, Yhz s], [.box [.ref 1, .ref 2, vI (if x.steps = 0 then x.scope else nxS (scA x) 2), vI x.vari, vI (if x.steps = 0 then 0 else x.steps - 1), vI z, vI (Ykt x m s)], .arr true 4 (x.bindings.map Yhg), .arr true 3 (x.macros.map Yhp), .arr true 1 ((Ylb x m s).scopes.map Yhh), .arr true 5 ((Ylb x m s).items.map Yhd)], .sv (Yjv (Ylb x m s) 3)⟩
theorem Zdc (x : YE) (z m : Int) (s : YS) (h : wX x <= 1048576 /\ 0 <= x.scope /\ x.scope <= 99999 /\ 0 <= x.steps /\ x.steps <= 200 /\ wY s <= 900000000 /\ Yho s <= 2000 /\ 0 <=
 m /\ m < x.macros.length) (hr : Yks (ruS x m) = true)  : Z7z x z m s := Yhv Tryz.call119 Tryz.func119 (let v10 := (nxS x.scope 3); let v9 := (if nxR x.scope (3 : Int) <=
 99999 then 0 else cdF 0 8); let v1 := (if nxR v10 (2 : Int) <= 99999 then if nxR x.scope (3 : Int) <= 99999 then 0 else cdF 0 8 else cdF v9 8); let v7 := (x.macros.getD m.toNat
 default); let v6 := (Yhx (Yib (nxt v10 2)) (Yhx (Yi8 (nxt x.scope 3)) s)); let v2 := (Yhx (Yib (nxt v10 2)) (apY x.bindings v7 v6)); let v3 := (YE.mk x.bindings
 x.macros (nxS v10 2) x.vari (x.steps - 1)); let v4 := (.sv (.agg [vI 0, vI 0, vS (ByteArray.mk #[]), .ref 3, .ref 4])); let v5 := (x.macros.map Yhp); let v8 :=
 [.ref 1, .ref 2, vI (nxS v10 2), vI x.vari, vI (x.steps - 1), vI z, vI v1]; .i (x.steps = 0) (.c [.ptr, .rd] (Zas x z 0 7) (.w (.ghost (.nilbox 4 3 true 1)) (.w (.ghost
 (.nilbox 4 4 true 5)) (.f [5, 6] [.box [.ref 1, .ref 2, vI x.scope, vI x.vari, vI x.steps, vI z, vI (cdF 0 7)], .arr true 4 (x.bindings.map Yhg), .arr true 3
 v5, .arr true 1 [], .arr true 5 []] v4)))) (.r (x.steps - 1) (.d [.ptr, .rd] (Z5p (YE.mk x.bindings x.macros x.scope x.vari (x.steps - 1)) z 0 3) (.d [.ptr, .rd]
 (Z5p (YE.mk x.bindings x.macros v10 x.vari (x.steps - 1)) z v9 2) (.i (v1 ≠ 0) (.w (.ghost (.nilbox 4 3 true 1)) (.w (.ghost (.nilbox 4 4 true 5)) (.f [5, 6] [.box
 v8, .arr true 4 (x.bindings.map Yhg), .arr true 3 v5, .arr true 1 [], .arr true 5 []] v4))) (.w (.draw [(23, [29])]) (.p (0 <= m /\ m.toNat < v5.length) (.w
 (.cells (Yiv v7)) (.p (v5[m.toNat]? = some (Yiv v7)) (.d [.rd, .rd, .rd] (Z1q s (nxt x.scope 3)) (.d [.rd, .rd, .rd] (Z1c (Yhx (Yi8 (nxt x.scope 3)) s) (nxt
 v10 2)) (.d [.rd, .rd, .rd] (Z9r x.bindings v7 v6) (.b (!apB x.bindings v7 v6) (.c [.ptr, .rd] (Zas v3 z v1 6) (.w (.ghost (.nilbox 4 3 true 1)) (.w (.ghost (.nilbox 4 4
 true 5)) (.f [30, 31] [.box [.ref 1, .ref 2, vI v3.scope, vI v3.vari, vI v3.steps, vI z, vI (cdF v1 6)], .arr true 4 (v3.bindings.map Yhg), .arr true 3
 (v3.macros.map Yhp), .arr true 1 [], .arr true 5 []] v4)))) (.d [.rd, .rd, .rd] (Z1c (apY x.bindings v7 v6) (nxt v10 2)) (.f [30, 31] [.box v8, .arr true 4
 (x.bindings.map Yhg), .arr true 3 v5, .arr true 1 (v2.scopes.map Yhh), .arr true 5 (v2.items.map Yhd)] (.sv (.agg [vI v2.kind, vI v2.number, vS
 v2.text, .ref 3, .ref 4]))))))))))))))))) (by
 dsimp only [Yhj, Z7z]
 have g1 := @Y1bs x s h.2.2.2.2.2.1 h.2.2.2.2.2.2.1
 have g2 := @Y12k x.scope 3 h.2.1
 have g3 := @Ynm x.scope 3
 have g4 := @Ynm (scA x) 2
 have g5 : scU x = nxt x.scope 3 /\ scA x = nxS x.scope 3 /\ scI x = nxt (scA x) 2 /\ Ynj x s = Yhx (Yib (scI x)) (Yhx (Yi8 (scU x)) s) /\ ruS x m = x.macros.getD m.toNat default := ⟨rfl, rfl, rfl, rfl, rfl⟩
 have g6 := Ymg x
 have g7 := @Yi9 _ wR x.macros (x.macros.getD m.toNat default)
 have g8 := @Y1at x.bindings (ruS x m) (Ynj x s)
 have g9 := @Yqe (apY x.bindings (ruS x m) (Ynj x s))
 have q6 := Y1kk x
 have q1 := @Y13e x m s
 have q7 := @Y1cw x.scope 3
 have q8 := @Y1cu x.scope 3
 have q2 := @Y11o x m s
 have q3 := @Y14l x m s
 have q4 := @Y1bp x m s
 have qz := Y193
 have q5 : Ynj x s = Yhx (Yib (nxt (nxS x.scope 3) 2)) (Yhx (Yi8 (nxt x.scope 3)) s) /\ ruS x m = x.macros.getD m.toNat default /\ scA x = nxS x.scope 3 := ⟨rfl, rfl, rfl⟩
 with_reducible repeat' (first | apply And.intro | exact zR | (intro) | apply Zd0 | apply Zef | apply Zeg | apply Zg8)
 all_goals ((try simp only [std, inj] at *); with_reducible and_intros)
 all_goals try with_reducible first | apply Zd0 | apply Zef | apply Zeg | apply Zg8
 all_goals try first | exact zw | grind [Y1g1, Yhn, Yhl, Yhm, Yhi])
abbrev Z80 (x : YE) (z : Int) (m : Int) (s : YS) : Ct := ⟨122, stI x z, [.one (.ptr 0 0), Yhz s, li m], [.box [.ref 1, .ref 2, vI (if x.steps = 0 then x.scope else if nxR x.scope 3 <= 99999 then nxS (scA x) 2 else x.scope), vI x.vari, vI (if x.steps = 0 then 0 else x.steps - 1), vI z], .arr true 4 (x.bindings.map Yhg), .arr true 3 (x.macros.map Yhp), .arr true 1 ((Ylb x m s).scopes.map Yhh), .arr true 5 ((Ylb x m s).items.map Yhd)], .tup [Yjv (Ylb x m s) 3, li (Ykt x m s)]⟩
theorem Zdd (x : YE) (z m : Int) (s : YS) (h : wX x <= 1048576 /\ 0 <= x.scope /\ x.scope <= 99999 /\ 0 <= x.steps /\ x.steps <= 200 /\ wY s <= 900000000 /\ Yi7 s = true /\ 0 <=
 m /\ m < x.macros.length) (hr : Yks (ruS x m) = true)  : Z80 x z m s := Yhv Tryz.call122 Tryz.func122 (.i (x.steps = 0) (.w (.ghost (.nilbox 4 3 true 1)) (.w (.ghost
 (.nilbox 4 4 true 5)) (.f [5, 6] [.box [.ref 1, .ref 2, vI x.scope, vI x.vari, vI x.steps, vI z], .arr true 4 (x.bindings.map Yhg), .arr true 3 (List.map
 Yhp x.macros), .arr true 1 [], .arr true 5 []] (.tup [.agg [vI 0, vI 0, vS (ByteArray.mk #[]), .ref 3, .ref 4], li 7])))) (.r (x.steps - 1) (.d [.ptr, .rd]
 (Z52 (YE.mk x.bindings x.macros x.scope x.vari (x.steps - 1)) z 3) (.i (cdN x.scope (3 : Int) ≠ 0) (.w (.ghost (.nilbox 4 3 true 1)) (.w (.ghost (.nilbox 4 4 true
 5)) (.f [5, 6] [.box [.ref 1, .ref 2, vI (nxS x.scope 3), vI x.vari, vI (x.steps - 1), vI z], .arr true 4 (x.bindings.map Yhg), .arr true 3 (List.map Yhp
 x.macros), .arr true 1 [], .arr true 5 []] (.tup [.agg [vI 0, vI 0, vS (ByteArray.mk #[]), .ref 3, .ref 4], li (cdN x.scope 3)])))) (.d [.ptr, .rd] (Z52
 (YE.mk x.bindings x.macros (nxS x.scope 3) x.vari (x.steps - 1)) z 2) (.i (cdN (nxS x.scope 3) (2 : Int) ≠ 0) (.w (.ghost (.nilbox 4 3 true 1)) (.w (.ghost (.nilbox 4 4 true
 5)) (.f [5, 6] [.box [.ref 1, .ref 2, vI (nxS (nxS x.scope 3) 2), vI x.vari, vI (x.steps - 1), vI z], .arr true 4 (x.bindings.map Yhg), .arr true 3 (List.map
 Yhp x.macros), .arr true 1 [], .arr true 5 []] (.tup [.agg [vI 0, vI 0, vS (ByteArray.mk #[]), .ref 3, .ref 4], li (cdN (nxS x.scope 3) 2)])))) (.w (.draw [(23,
 [29])]) (.p (0 <= m /\ m.toNat < (x.macros.map Yhp).length) (.w (.cells (Yiv (x.macros.getD m.toNat default))) (.p ((x.macros.map Yhp)[m.toNat]? = some (Yiv
 (x.macros.getD m.toNat default))) (.d [.rd, .rd] (Z8r s (nxt x.scope 3)) (.d [.rd, .rd] (Z6z (Yhx (Yi8 (nxt x.scope 3)) s) (nxt (nxS x.scope 3) 2)) (.d [.rd, .rd,
 .rd] (Z9s x.bindings (x.macros.getD m.toNat default) (Yhx (Yib (nxt (nxS x.scope 3) 2)) (Yhx (Yi8 (nxt x.scope 3)) s))) (.b (!apB x.bindings (x.macros.getD m.toNat
 default) (Yhx (Yib (nxt (nxS x.scope 3) 2)) (Yhx (Yi8 (nxt x.scope 3)) s))) (.w (.ghost (.nilbox 4 3 true 1)) (.w (.ghost (.nilbox 4 4 true 5)) (.f [30, 31] [.box [.ref 1,
 .ref 2, vI (nxS (nxS x.scope 3) 2), vI x.vari, vI (x.steps - 1), vI z], .arr true 4 (x.bindings.map Yhg), .arr true 3 (x.macros.map Yhp), .arr true 1 [],
 .arr true 5 []] (.tup [.agg [vI 0, vI 0, vS (ByteArray.mk #[]), .ref 3, .ref 4], li 6])))) (.d [.rd, .rd] (Z6z (apY x.bindings (x.macros.getD m.toNat default)
 (Yhx (Yib (nxt (nxS x.scope 3) 2)) (Yhx (Yi8 (nxt x.scope 3)) s))) (nxt (nxS x.scope 3) 2)) (.f [30, 31] [.box [.ref 1, .ref 2, vI (nxS (nxS x.scope 3) 2), vI x.vari, vI
 (x.steps - 1), vI z], .arr true 4 (x.bindings.map Yhg), .arr true 3 (x.macros.map Yhp), .arr true 1 ((Yhx (Yib (nxt (nxS x.scope 3) 2))
 (apY x.bindings (x.macros.getD m.toNat default) (Yhx (Yib (nxt (nxS x.scope 3) 2)) (Yhx (Yi8 (nxt x.scope 3)) s)))).scopes.map Yhh), .arr true 5 ((Yhx (Yib (nxt
 (nxS x.scope 3) 2)) (apY x.bindings (x.macros.getD m.toNat default) (Yhx (Yib (nxt (nxS x.scope 3) 2)) (Yhx (Yi8 (nxt x.scope 3)) s)))).items.map Yhd)] (.tup [.agg [vI (Yhx (Yib
 (nxt (nxS x.scope 3) 2)) (apY x.bindings (x.macros.getD m.toNat default) (Yhx (Yib (nxt (nxS x.scope 3) 2)) (Yhx (Yi8 (nxt x.scope 3)) s)))).kind, vI (Yhx (Yib (nxt (nxS
 x.scope 3) 2)) (apY x.bindings (x.macros.getD m.toNat default) (Yhx (Yib (nxt (nxS x.scope 3) 2)) (Yhx (Yi8 (nxt x.scope 3)) s)))).number, vS (Yhx (Yib (nxt (nxS x.scope 3)
 2)) (apY x.bindings (x.macros.getD m.toNat default) (Yhx (Yib (nxt (nxS x.scope 3) 2)) (Yhx (Yi8 (nxt x.scope 3)) s)))).text, .ref 3, .ref 4], li 0]))))))))))))))))) (by
 dsimp only [Yhj, Z80]
 have g0 := @Yqe s h.2.2.2.2.2.2.1
 have g1 := @Y1bs x s h.2.2.2.2.2.1
 have g2 := @Y12k x.scope 3 h.2.1
 have g10 := @Y12k (scA x) 2
 have g3 := @Ynm x.scope 3
 have g4 := @Ynm (scA x) 2
 have g5 : scU x = nxt x.scope 3 /\ scA x = nxS x.scope 3 /\ scI x = nxt (scA x) 2 /\ Ynj x s = Yhx (Yib (scI x)) (Yhx (Yi8 (scU x)) s) /\ ruS x m = x.macros.getD m.toNat default := ⟨rfl, rfl, rfl, rfl, rfl⟩
 have g6 := Ymg x
 have g7 := @Yi9 _ wR x.macros (x.macros.getD m.toNat default)
 have g8 := @Y1at x.bindings (ruS x m) (Ynj x s)
 have g9 := @Yqe (apY x.bindings (ruS x m) (Ynj x s))
 have g11 : 1 <= scU x -> scU x <= 99999 -> okY (Yhx (Yi8 (scU x)) s) = true := fun a b => Y1hs (Y1ip ⟨a, b⟩) s g0.2.2
 have c1 : cdN x.scope 3 = if nxR x.scope 3 <= 99999 then 0 else 8 := rfl
 have c2 : cdN (nxS x.scope 3) 2 = if nxR (nxS x.scope 3) 2 <= 99999 then 0 else 8 := rfl
 have q1 := @Y13e x m s
 have q7 := @Y1cw x.scope 3
 have q8 := @Y1cu x.scope 3
 have q2 := @Y11o x m s
 have q3 := @Y14l x m s
 have q4 := @Y1bp x m s
 have qz := Y193
 have q5 : Ynj x s = Yhx (Yib (nxt (nxS x.scope 3) 2)) (Yhx (Yi8 (nxt x.scope 3)) s) /\ ruS x m = x.macros.getD m.toNat default /\ scA x = nxS x.scope 3 := ⟨rfl, rfl, rfl⟩
 with_reducible repeat' (first | apply And.intro | exact zR | (intro) | apply Zbp | apply Zej | apply Zek | apply Zga)
 all_goals ((try simp only [std, inj] at *); with_reducible and_intros)
 all_goals try with_reducible first | apply Zbp | apply Zej | apply Zek | apply Zga
 all_goals try first | exact zw | grind [Y1g1, Yhn, Yhl, Yhm, Yhi])
theorem Y1ic {r : List Cell} {k : Nat} (h : k < 1) : [r][k]? = some r := by
 obtain rfl : k = 0 := by omega
 rfl
def xsB (x : YE) (s : YS) : Bool := Ym2 x && Yi7 s && blw x.scope s
def xsE (x : YE) (s : YS) : Int := if xsB x s = true /\ 0 <= hdM x s then Ykt x (hdM x s) s else 1
def xsY (x : YE) (s : YS) : YS := if xsE x s = 0 then Ylb x (hdM x s) s else zY
def xsX (x : YE) (s : YS) : YE := if xsE x s = 0 then ⟨x.bindings, x.macros, nxS (scA x) 2, x.vari, x.steps - 1⟩ else x
theorem Y1cr {x : YE} {s : YS} (h : xsB x s = true) (h2 : 0 <= hdM x s) : hdM x s < x.macros.length /\ Yks (ruS x (hdM x s)) = true := by
 simp only [xsB, Ym2, Bool.and_eq_true, List.all_eq_true] at h
 have hb := h.1.1.2
 have hm := h.1.1.1.2
 unfold hdM at h2
 split at h2
 ·rename_i hc
  have e : hdM x s = (hdR x s).number := if_pos hc
  have hF := hc.1
  simp only [hdF, Bool.and_eq_true, decide_eq_true_eq] at hF
  have e2 : hdR x s = Yit (cnd x.bindings (s.items.getD 0 default).text (s.items.getD 0 default).scopes) := by
   unfold hdR; rw [if_pos hF.1]; exact if_pos hF.2
  have hne : cnd x.bindings (s.items.getD 0 default).text (s.items.getD 0 default).scopes ≠ [] := by
   intro he
   have := hF.2
   unfold rsC at this; rw [if_pos he] at this; omega
  have hmem : hdR x s ∈ x.bindings := by
   rw [e2]; exact (List.mem_filter.1 (Ywp hne)).1
  have h3 := hb _ hmem
  have hk := hc.2
  simp only [Yo4, hk, Bool.and_eq_true, Bool.not_eq_true', Bool.and_eq_false_iff, decide_eq_false_iff_not] at h3
  have hlt : (hdR x s).number < x.macros.length := by
   rcases h3.2 with h4 | h4
   ·exact absurd trivial h4
   ·omega
  rw [e]
  refine ⟨hlt, ?_⟩
  have := hm _ (Yhn (L := x.macros) (k := (hdR x s).number.toNat) (by omega))
  simp only [ruX, Bool.and_eq_true] at this
  exact this.1
 ·omega
theorem Y1ii {L : List YB} (h : Yrz L = true) {b : YB} (hb : b ∈ L) : 0 <= b.number := by
 simp only [Yrz, Bool.and_eq_true] at h
 obtain ⟨k, hk, e⟩ := List.mem_iff_getElem.1 hb
 have h1 := Yqx L L.length (k + 1) hk h.1
 simp only [Ykj, Bool.and_eq_true] at h1
 have h2 := h1.2.1
 have e2 : L.getD k default = b := by simp [hk, e]
 rw [e2] at h2
 simp only [Ynt, Bool.and_eq_true, decide_eq_true_eq] at h2
 exact h2.2.1
theorem Y1hd {x : YE} {s : YS} (hF : hdF x s = true) : hdR x s ∈ x.bindings := by
 simp only [hdF, Bool.and_eq_true, decide_eq_true_eq] at hF
 have e2 : hdR x s = Yit (cnd x.bindings (s.items.getD 0 default).text (s.items.getD 0 default).scopes) := by
  unfold hdR; rw [if_pos hF.1]; exact if_pos hF.2
 have hne : cnd x.bindings (s.items.getD 0 default).text (s.items.getD 0 default).scopes ≠ [] := by
  intro he
  have := hF.2
  unfold rsC at this; rw [if_pos he] at this; omega
 rw [e2]; exact (List.mem_filter.1 (Ywp hne)).1
theorem Y1bh {x : YE} {s : YS} (h : ¬ (xsB x s = true /\ 0 <= hdM x s)) : xsE x s = 1 /\ xsY x s = zY /\ xsX x s = x := by
 have e : xsE x s = 1 := if_neg h
 have e2 : ¬ xsE x s = 0 := by rw [e]; decide
 exact ⟨e, if_neg e2, if_neg e2⟩
theorem Y1fy {x : YE} {s : YS} (h : xsB x s = true) (h2 : 0 <= hdM x s) : xsE x s = Ykt x (hdM x s) s /\ (Ykt x (hdM x s) s = 0 -> xsY x s = Ylb x (hdM x s) s /\ xsX x s = ⟨x.bindings, x.macros, nxS (scA x) 2, x.vari, x.steps - 1⟩) /\ (¬ Ykt x (hdM x s) s = 0 -> xsY x s = zY /\ xsX x s = x) := by
 have e : xsE x s = Ykt x (hdM x s) s := if_pos ⟨h, h2⟩
 refine ⟨e, fun h3 => ?_, fun h3 => ?_⟩
 ·have e2 : xsE x s = 0 := e.trans h3
  exact ⟨if_pos e2, if_pos e2⟩
 ·have e2 : ¬ xsE x s = 0 := fun h4 => h3 (e.symm.trans h4)
  exact ⟨if_neg e2, if_neg e2⟩
theorem Y1lz {x : YE} {s : YS} (h : Ym2 x = false ∨ Yi7 s = false ∨ blw x.scope s = false) : xsB x s = false := by
 unfold xsB; rcases h with h | h | h <;> simp [h]
theorem Y1l6 {x : YE} {s : YS} (h : hdF x s = false ∨ ¬ (hdR x s).kind = 4) : hdM x s = -1 := by
 unfold hdM; rw [if_neg]; rcases h with h | h <;> simp [h]
theorem Y1kp {x : YE} {s : YS} (h1 : Ym2 x = true) (h2 : Yi7 s = true) (h3 : blw x.scope s = true) (hF : hdF x s = true) (hk : (hdR x s).kind = 4) : xsB x s = true /\ hdM x s = (hdR x s).number /\ 0 <= (hdR x s).number /\ (hdR x s).number < x.macros.length /\ Yks (ruS x (hdR x s).number) = true := by
 have hB : xsB x s = true := by unfold xsB; rw [h1, h2, h3]; rfl
 have hM : hdM x s = (hdR x s).number := if_pos ⟨hF, hk⟩
 have hn : 0 <= (hdR x s).number := by
  simp only [Ym2, Bool.and_eq_true] at h1
  exact Y1ii h1.1.1.1.1.1.1 (Y1hd hF)
 have h4 := Y1cr hB (by omega)
 rw [hM] at h4
 exact ⟨hB, hM, hn, h4.1, h4.2⟩
theorem Y12j {x : YE} {m : Int} {s : YS} (h : Ykt x m s = 0) : ¬ x.steps = 0 /\ nxR x.scope 3 <= 99999 := by
 unfold Ykt at h
 split at h
 ·omega
 ·rename_i h1
  split at h
  ·rename_i h2; exact ⟨h1, h2.1⟩
  ·omega
abbrev Z9v (x : YE) (s : YS) : Ct := ⟨120, [], [Ykb x, ll [[cI s.kind, cI s.number, cS s.text, .list (s.scopes.map Yhh), .list (s.items.map Yhd)]]], [], .sv (lb (xsB x s))⟩
def Z70 (x : YE) (s : YS) : Lp Nat := .mk 27 0 (fun x => [(2, .one (.ptr 0 0)), (10, ll [Yhk s]), (11, li 1), (12, hs x 0)]) (fun x_1 => [.box (vals
 (Ykl x))]) (fun k => [.s (li (k : Int))]) (fun k => k <= 1 /\ Ym2 x = true /\ (k = 0 ∨ (Yi7 s && blw x.scope s) = true)) (fun k => 1 - k) [.mk (xsB x s = true) (.exit 0)
 (fun x => []) (fun x => []) [], .mk (xsB x s = false) .ret (fun x => [(4, hs x 0)]) (fun x => []) [.s (lb false)]]
theorem Zgh (x : YE) (s : YS) (h : wX x <= 1048576) : Lp.Sem Tryz.prog (Yht Tryz.f120 0) (Z70 x s) := Yi3 (fun k => .i ((k : Int) < 1) (.x (k : Int)
 [Yhk s] (Yhk s) (.c [.rd] (Z1f s) (.b (!Yi7 s) (.y true (.o 1 [] [.s (lb false)])) (.c [.rd, .rd] (Z4c s x.scope) (.b (!blw x.scope s) (.o 1 [] [.s (lb
 false)]) (.r ((k : Int) + 1) (.g [0] (k + 1) [.s (li ((k : Int) + 1))]))))))) (.o 0 [] [])) (by
 intro k h; try dsimp only [Yhj, Yhq, Z70] at h ⊢
 with_reducible repeat' (first | apply And.intro | exact zR | (intro) | apply Z7q | apply Z4c)
 all_goals ((try simp only [std, inj] at *); with_reducible and_intros)
 all_goals try with_reducible first | apply Z7q | apply Z4c
 all_goals try first | exact zw | grind [xsB, Yhl, Yhm, Yhi]
 all_goals (try (exact Y1ic (by omega))))
theorem Zgi (x : YE) (s : YS) (h : wX x <= 1048576)  : Z9v x s := Yhv Tryz.call120 Tryz.func120 (.d [.rd] (Z7p x) (.b (!Ym2 x) (.s (lb false)) (.h (1 <=
 9223372036854775807) (.l (Z70 x s) (Zgh x s h) [0] [.s (li 0)] 0 (.t (.s (lb true)) (.t (.s (lb false)) .q)))))) (by
 dsimp only [Yhj, Z9v, Yhq, Z70]
 with_reducible repeat' (first | apply And.intro | exact zR | (intro) | apply Z7q | apply Z4c)
 all_goals ((try simp only [std, inj] at *); with_reducible and_intros)
 all_goals try with_reducible first | apply Z7q | apply Z4c
 all_goals try first | exact zw | grind [xsB, Yhl, Yhm, Yhi])
abbrev Z8t (x : YE) (s : YS) : Ct := ⟨51, [], [Ykb x, Yhz s], [.arr true 1 ((xsY x s).scopes.map Yhh), .arr true 5 ((xsY x s).items.map Yhd), .arr true 4 ((xsX x s).bindings.map Yhg), .arr true 3 ((xsX x s).macros.map Yhp)], .tup [Yjv (xsY x s) 0, Ypn (xsX x s) 2, li (xsE x s)]⟩
theorem Zem (x : YE) (s : YS) (h : wX x <= 1048576 /\ wY s <= 900000000)  : Z8t x s := Yhv Tryz.call51 Tryz.func51 (.d [.rd] (Z7o x) (.b (!Ym2 x) (.y true
 (.y true (.d [.rd] (Zu x) (.w (.ghost (.nilbox 2 3 true 1)) (.w (.ghost (.nilbox 2 4 true 5)) (.f [6, 7, 4, 5] [.arr true 1 [], .arr true 5 [], .arr true 4 (List.map
 Yhg x.bindings), .arr true 3 (x.macros.map Yhp)] (.tup [.agg [vI 0, vI 0, vS (ByteArray.mk #[]), .ref 0, .ref 1], .agg [.ref 2, .ref 3, vI x.scope, vI
 x.vari, vI x.steps], li 1]))))))) (.c [.rd] (Z20 s) (.b (!Yi7 s) (.y true (.d [.rd] (Zu x) (.w (.ghost (.nilbox 2 3 true 1)) (.w (.ghost (.nilbox 2 4 true 5))
 (.f [6, 7, 4, 5] [.arr true 1 [], .arr true 5 [], .arr true 4 (x.bindings.map Yhg), .arr true 3 (x.macros.map Yhp)] (.tup [.agg [vI 0, vI 0, vS
 (ByteArray.mk #[]), .ref 0, .ref 1], .agg [.ref 2, .ref 3, vI x.scope, vI x.vari, vI x.steps], li 1])))))) (.c [.rd, .rd] (Zcv s x.scope) (.b (!blw x.scope s) (.d
 [.rd] (Zu x) (.w (.ghost (.nilbox 2 3 true 1)) (.w (.ghost (.nilbox 2 4 true 5)) (.f [6, 7, 4, 5] [.arr true 1 [], .arr true 5 [], .arr true 4 (List.map Yhg
 x.bindings), .arr true 3 (x.macros.map Yhp)] (.tup [.agg [vI 0, vI 0, vS (ByteArray.mk #[]), .ref 0, .ref 1], .agg [.ref 2, .ref 3, vI x.scope, vI x.vari,
 vI x.steps], li 1]))))) (.d [.rd] (Zu x) (.d [.ptr, .rd] (Z7y x 0 0 s) (.b (!hdF x s) (.y true (.d [.rd] (Zu x) (.w (.ghost (.nilbox 2 3 true 1)) (.w
 (.ghost (.nilbox 2 4 true 5)) (.f [10, 11, 8, 9] [.arr true 1 [], .arr true 5 [], .arr true 4 (x.bindings.map Yhg), .arr true 3 (x.macros.map Yhp)]
 (.tup [.agg [vI 0, vI 0, vS (ByteArray.mk #[]), .ref 0, .ref 1], .agg [.ref 2, .ref 3, vI x.scope, vI x.vari, vI x.steps], li 1])))))) (.i ((hdR x s).kind ≠ 4) (.d
 [.rd] (Zu x) (.w (.ghost (.nilbox 2 3 true 1)) (.w (.ghost (.nilbox 2 4 true 5)) (.f [10, 11, 8, 9] [.arr true 1 [], .arr true 5 [], .arr true 4 (List.map Yhg
 x.bindings), .arr true 3 (x.macros.map Yhp)] (.tup [.agg [vI 0, vI 0, vS (ByteArray.mk #[]), .ref 0, .ref 1], .agg [.ref 2, .ref 3, vI x.scope, vI x.vari,
 vI x.steps], li 1]))))) (.d [.ptr, .rd, .rd] (Z7z x 0 (hdR x s).number s) (.i (Ykt x (hdR x s).number s ≠ 0) (.w (.draw [(7, [2]), (8, [3])]) (.d [.rd] (Zu x) (.w
 (.ghost (.nilbox 2 3 true 1)) (.w (.ghost (.nilbox 2 4 true 5)) (.f [16, 17, 14, 15] [.arr true 1 [], .arr true 5 [], .arr true 4 (x.bindings.map Yhg), .arr true
 3 (x.macros.map Yhp)] (.tup [.agg [vI 0, vI 0, vS (ByteArray.mk #[]), .ref 0, .ref 1], .agg [.ref 2, .ref 3, vI x.scope, vI x.vari, vI x.steps], li (Ykt x
 (hdR x s).number s)])))))) (.w (.draw [(5, [2]), (6, [3])]) (.f [11, 12, 4, 5] [.arr true 1 ((Ylb x (hdR x s).number s).scopes.map Yhh), .arr true 5 (List.map Yhd
 (Ylb x (hdR x s).number s).items), .arr true 4 (x.bindings.map Yhg), .arr true 3 (x.macros.map Yhp)] (.tup [.agg [vI (Ylb x (hdR x s).number s).kind,
 vI (Ylb x (hdR x s).number s).number, vS (Ylb x (hdR x s).number s).text, .ref 0, .ref 1], .agg [.ref 2, .ref 3, vI (if x.steps = 0 then x.scope else nxS (scA x) 2),
 vI x.vari, vI (if x.steps = 0 then 0 else x.steps - 1)], li 0]))))))))))))))) (by
 dsimp only [Yhj, Z8t]
 have g1 := @Ywl x
 have g2 := Ymg x
 have g3 := @Yqe s
 have qz := Y193
 have q1 := @Y1bh x s
 have q2 := @Y1fy x s
 have q3 := @Y1lz x s
 have q4 := @Y1l6 x s
 have q5 := @Y1kp x s
 have q6 := @Y12j x (hdR x s).number s
 with_reducible repeat' (first | apply And.intro | exact zR | (intro) | apply Zcw | apply Zcy | apply Zdb | apply Zdc)
 all_goals ((try simp only [std, inj] at *); with_reducible and_intros)
 all_goals try with_reducible first | apply Zcw | apply Zcy | apply Zdb | apply Zdc
 all_goals try first | exact zw | grind [Yhl, Yhm, Yhi])
abbrev Z71 (x : YE) (s : YS) : Ct := ⟨52, [], [Ykb x, Yhz s], [.arr true 1 ((xsY x s).scopes.map Yhh), .arr true 5 ((xsY x s).items.map Yhd), .arr true 4 ((xsX x s).bindings.map Yhg), .arr true 3 ((xsX x s).macros.map Yhp)], .tup [Yjv (xsY x s) 0, Ypn (xsX x s) 2, li (xsE x s)]⟩
theorem Zen (x : YE) (s : YS) (h : wX x <= 1048576 /\ wY s <= 900000000)  : Z71 x s := Yhv Tryz.call52 Tryz.func52 (.d [.rd] (Z5o x) (.d [.rd, .rd] (Z9v
 x s) (.b (!xsB x s) (.w (.draw [(3, [2]), (4, [3])]) (.w (.ghost (.nilbox 2 3 true 1)) (.w (.ghost (.nilbox 2 4 true 5)) (.f [8, 9, 4, 5] [.arr true 1 [], .arr true 5 [],
 .arr true 4 (x.bindings.map Yhg), .arr true 3 (x.macros.map Yhp)] (.tup [.agg [vI 0, vI 0, vS (ByteArray.mk #[]), .ref 0, .ref 1], .agg [.ref 2,
 .ref 3, vI x.scope, vI x.vari, vI x.steps], li 1]))))) (.d [.ptr, .rd] (Z7x x 0 s) (.i (hdM x s < 0) (.w (.draw [(3, [2]), (4, [3])]) (.w (.ghost (.nilbox 2 3 true 1))
 (.w (.ghost (.nilbox 2 4 true 5)) (.f [8, 9, 4, 5] [.arr true 1 [], .arr true 5 [], .arr true 4 (x.bindings.map Yhg), .arr true 3 (x.macros.map Yhp)]
 (.tup [.agg [vI 0, vI 0, vS (ByteArray.mk #[]), .ref 0, .ref 1], .agg [.ref 2, .ref 3, vI x.scope, vI x.vari, vI x.steps], li 1]))))) (.d [.ptr, .rd, .rd]
 (Z80 x 0 (hdM x s) s) (.i (Ykt x (hdM x s) s ≠ 0) (.d [.rd] (Z5o x) (.w (.ghost (.nilbox 2 3 true 1)) (.w (.ghost (.nilbox 2 4 true 5)) (.f [16, 17, 14, 15] [.arr
 true 1 [], .arr true 5 [], .arr true 4 (x.bindings.map Yhg), .arr true 3 (x.macros.map Yhp)] (.tup [.agg [vI 0, vI 0, vS (ByteArray.mk #[]), .ref 0,
 .ref 1], .agg [.ref 2, .ref 3, vI x.scope, vI x.vari, vI x.steps], li (Ykt x (hdM x s) s)]))))) (.w (.draw [(3, [2]), (4, [3])]) (.f [11, 12, 4, 5] [.arr true 1
 ((Ylb x (hdM x s) s).scopes.map Yhh), .arr true 5 ((Ylb x (hdM x s) s).items.map Yhd), .arr true 4 (x.bindings.map Yhg), .arr true 3 (List.map
 Yhp x.macros)] (.tup [.agg [vI (Ylb x (hdM x s) s).kind, vI (Ylb x (hdM x s) s).number, vS (Ylb x (hdM x s) s).text, .ref 0, .ref 1], .agg [.ref 2, .ref 3, vI
 (if x.steps = 0 then x.scope else if nxR x.scope (3 : Int) <= 99999 then nxS (scA x) 2 else x.scope), vI x.vari, vI (if x.steps = 0 then 0 else x.steps - 1)], li 0])))))))))) (by
 dsimp only [Yhj, Z71]
 have g1 := @Ywl x
 have g2 := Ymg x
 have g3 := @Yqe s
 have qz := Y193
 have q1 := @Y1bh x s
 have q2 := @Y1fy x s
 have q4 := @Y1cr x s
 have q6 := @Y12j x (hdM x s) s
 have q7 : xsB x s = true -> Ym2 x = true /\ Yi7 s = true := fun h => by simp only [xsB, Bool.and_eq_true] at h; exact h.1
 with_reducible repeat' (first | apply And.intro | exact zR | (intro) | apply Zcz | apply Zgi | apply Zda | apply Zdd)
 all_goals ((try simp only [std, inj] at *); with_reducible and_intros)
 all_goals try with_reducible first | apply Zcz | apply Zgi | apply Zda | apply Zdd
 all_goals try first | exact zw | grind [Yhl, Yhm, Yhi])
theorem Y1lf (x : YE) (s : YS) : wY (xsY x s) <= 400002000 := by
 unfold xsY Ylb
 split
 ·rename_i h
  split
  ·rename_i h2
   unfold xsE at h
   split at h
   ·unfold Ykt at h2
    split at h2
    ·omega
    ·split at h2
     ·split at h2
      ·rename_i ha
       have h3 := Yqe (Y1at ha)
       have h4 := Y12v (Y13t (scI x)) (apY x.bindings (ruS x (hdM x s)) (Ynj x s))
       omega
      ·omega
     ·omega
   ·omega
  ·have : wY zY = 0 := rfl
   omega
 ·have : wY zY = 0 := rfl
  omega
theorem Y1ke (x : YE) (s : YS) : (xsX x s).bindings = x.bindings /\ (xsX x s).macros = x.macros := by
 unfold xsX; split <;> exact ⟨rfl, rfl⟩
set_option maxHeartbeats 4000000
abbrev Z1l (L : List Int) (n : Int) : Ct := ⟨80, [.arr true 1 (L.map Yhh)], [.one (.ref 0), li n], [.arr true 1 ((Yhu mkI Yix L n).map Yhh)], .sv (li (n + L.length))⟩
def Z3e (L : List Int) (n : Int) : Lp Nat := .mk 19 1 (fun x => [(0, .one (.ref 0)), (1, hs x 1), (5, hs x 0)]) (fun x => [ho x 2]) (fun k => [.s (li (k : Int)), .s
 (li (n + (k : Int))), .o (.arr true 1 ((Yjy mkI Yix L n k).map Yhh))]) (fun k => k <= L.length /\ L.length <= 9223372036854775807) (fun k => L.length - k) [.mk True (.exit
 0) (fun x => [(1, hs x 0)]) (fun x => [ho x 1]) [.s (li (n + (L.length : Int))), .o (.arr true 1 ((Yhu mkI Yix L n).map Yhh))]]
theorem Zc4 (L : List Int) (n : Int) (h0 : 0 <= n) (h : n + (L.length : Int) <= 100000000000000) : Lp.Sem Tryz.prog (Yht Tryz.f80 0) (Z3e L n) := Yi3 (fun k
 => .z Yhh (Yjy mkI Yix L n k) (.i ((k : Int) < (↑((Yjy mkI Yix L n k).map Yhh).length : Int)) (.p (0 <= (k : Int) /\ (k : Int).toNat < ((Yjy mkI Yix L
 n k).map Yhh).length) (.w (.cells (Yhh (L.getD (k : Int).toNat default))) (.p (((Yjy mkI Yix L n k).map Yhh)[(k : Int).toNat]? = some [cI (L.getD (k : Int).toNat 0)]) (.r (n +
 (k : Int) + 1) (.r ((k : Int) + 1) (.g [0] (k + 1) [.s (li ((k : Int) + 1)), .s (li (n + (k : Int) + 1)), .o (.arr true 1 (((Yjy mkI Yix L n k).map Yhh).set (↑k :
 Int).toNat [cI (n + (k : Int))]))])))))) (.o 0 [0] [.s (li (n + (k : Int))), .o (.arr true 1 ((Yjy mkI Yix L n k).map Yhh))]))) (by
 intro k h; try dsimp only [Yhj, Yhq, Z3e] at h ⊢
 with_reducible repeat' (first | apply And.intro | exact zR | (intro))
 all_goals (try simp only [std, Yi5, inj] at *)
 all_goals with_reducible and_intros
 all_goals try first | exact z | ((first | refine Yjw ?_ | refine Ykm ?_ rfl); (first | omega | (simp only [std, Yi5]; omega) | grind)) | (refine Yjr ?_; (simp only [List.length_map, List.length_set, Yj2]; omega)) | (refine Yjs ?_; (first | omega | (simp only [std, Yi5]; omega) | grind)) | (refine Yj9 ?_ rfl; (first | omega | (simp only [std, Yi5]; omega) | grind)) | (refine Yiz ?_ ?_; (first | omega | (simp only [std, Yi5]; omega) | grind); (first | grind [Yji, mkI, Y11x, Yhh, Yxa, Yhl, Yhm, Yhi])) | grind [Yji, mkI, Y11x, Yhh, Yxa, Yhl, Yhm, Yhi])
theorem Zj (L : List Int) (n : Int) (h0 : 0 <= n) (h : n + L.length <= 100000000000000)  : Z1l L n := Yhv Tryz.call80 Tryz.func80 (.l (Z3e L n)
 (Zc4 L n h0 h) [0] [.s (li 0), .s (li n), .o (.arr true 1 (L.map Yhh))] 0 (.t (.f [] [.arr true 1 ((Yhu mkI Yix L n).map Yhh)] (.sv (li (n +
 (L.length : Int))))) .q)) (by
 dsimp only [Yhj, Z1l, Yhq, Z3e]
 with_reducible repeat' (first | apply And.intro | exact zR | (intro))
 all_goals (try simp only [std, Yi5, inj] at *)
 all_goals with_reducible and_intros
 all_goals try first | exact z | ((first | refine Yjw ?_ | refine Ykm ?_ rfl); (first | omega | (simp only [std, Yi5]; omega) | grind)) | (refine Yjr ?_; (simp only [List.length_map, List.length_set, Yj2]; omega)) | (refine Yjs ?_; (first | omega | (simp only [std, Yi5]; omega) | grind)) | (refine Yj9 ?_ rfl; (first | omega | (simp only [std, Yi5]; omega) | grind)) | (refine Yiz ?_ ?_; (first | omega | (simp only [std, Yi5]; omega) | grind); (first | grind [Yuf, Yhl, Yhm, Yhi])) | grind [Yuf, Yhl, Yhm, Yhi])
abbrev Z1m (n : Int) : Ct := ⟨95, [], [li n], [], .sv (ls (Yj7 n))⟩
def Z3f (n : Int) : Lp (Int × List UInt8) := .mk 20 0 (fun x => [(0, hs x 0), (3, hs x 1)]) (fun x => []) (fun k => [.s (li k.fst), .s (ls (mkS k.snd))]) (fun k => 0 <=
 k.fst /\ k.fst <= n /\ Ymu k.fst.toNat ++ k.snd = Ymu n.toNat) (fun k => k.fst.toNat) [.mk True (.exit 0) (fun x => [(3, hs x 0)]) (fun x => []) [.s (ls (mkS (Ymu n.toNat)))]]
theorem Zc5 (n : Int) (h0 : 0 <= n) (h : n <= 100000000000000) : Lp.Sem Tryz.prog (Yht Tryz.f95 0) (Z3f n) := Yi3 (fun k => .i (0 < k.fst) (.p ((10 : Int) ≠
 0) (.r (48 + k.fst.tmod 10) (.p (rng IntKind.u8 (48 + k.fst.tmod 10)) (.w (.bytes [UInt8.ofNat (48 + k.fst.tmod 10).toNat]) (.p ([[Cell.lit (Value.int IntKind.u8 (48 + k.fst.tmod
 10))]] = [[Cell.lit (Value.int IntKind.u8 (↑(UInt8.ofNat (48 + k.fst.tmod 10).toNat).toNat : Int))]]) (.p (1 + k.snd.length <= 9223372036854775807) (.p ((10 : Int) ≠ 0) (.r
 (k.fst.tdiv 10) (.g [] (k.fst.tdiv 10, [UInt8.ofNat (48 + k.fst.tmod 10).toNat] ++ k.snd) [.s (li (k.fst.tdiv 10)), .s (ls (ByteArray.mk ([UInt8.ofNat (48 + k.fst.tmod 10).toNat]
 ++ k.snd).toArray))]))))))))) (.o 0 [] [.s (ls (mkS k.snd))])) (by
 intro k h; try dsimp only [Yhj, Yhq, Z3f] at h ⊢
 obtain ⟨i, l⟩ := k
 simp only at *
 obtain ⟨g1, g2, g3⟩ := h
 have g4 : l.length <= 100000000000000 := by
  have := congrArg List.length g3
  have := Y14s n.toNat
  simp only [List.length_append] at *
  omega
 simp only [Int.tmod_eq_emod_of_nonneg g1, Int.tdiv_eq_ediv_of_nonneg g1]
 refine ⟨fun g => ?_, fun g => ?_⟩
 ·refine ⟨by decide, by rw [Y1ah]; omega, by rw [Y1lm]; omega, by rw [Y1k8 (by omega) (by omega)], by omega, by decide, by rw [Y1ah]; omega, by omega, rfl, ?_⟩
  exact ⟨by show 0 <= i / 10; omega, by show i / 10 <= n; omega, by show Ymu (i / 10).toNat ++ ([_] ++ l) = _; rw [<- g3, Y1ed g, List.append_assoc]⟩
 ·refine ⟨trivial, ?_⟩
  have e : i = 0 := by omega
  subst e
  rw [show Ymu (0 : Int).toNat = [] from Y1bo] at g3
  rw [<- g3]; rfl)
theorem Z6 (n : Int) (h0 : 0 <= n) (h : n <= 100000000000000)  : Z1m n := Yhv Tryz.call95 Tryz.func95 (.i (n <= 0) (.s (ls (ByteArray.mk #[(109 : UInt8), (48 :
 UInt8)]))) (.l (Z3f n) (Zc5 n h0 h) [] [.s (li n), .s (ls (ByteArray.mk #[]))] (n, []) (.t (.p (1 + (Ymu n.toNat).length <= 9223372036854775807) (.s (ls
 (ByteArray.mk ([(109 : UInt8)] ++ Ymu n.toNat).toArray)))) .q))) (by
 dsimp only [Yhj, Z1m, Yhq, Z3f]
 have g := Y14s n.toNat
 simp only [Yj7]
 with_reducible repeat' (first | apply And.intro | exact zR | (intro))
 all_goals (try simp only [std, Yi5, inj] at *)
 all_goals with_reducible and_intros
 all_goals try first | exact z | ((first | refine Yjw ?_ | refine Ykm ?_ rfl); (first | omega | (simp only [std, Yi5]; omega) | grind)) | (refine Yjr ?_; (simp only [List.length_map, List.length_set, Yj2]; omega)) | (refine Yjs ?_; (first | omega | (simp only [std, Yi5]; omega) | grind)) | (refine Yj9 ?_ rfl; (first | omega | (simp only [std, Yi5]; omega) | grind)) | (refine Yiz ?_ ?_; (first | omega | (simp only [std, Yi5]; omega) | grind); (first | grind [mkS, Yhl, Yhm, Yhi])) | grind [mkS, Yhl, Yhm, Yhi])
abbrev Z4 (x : YS) (n : Int) : Ct := ⟨45, [.arr true 5 (x.items.map Yhd)], [.one (.ref 0), li n], [.arr true 5 ((Yhu mkY cY x.items n).map Yhd)], .sv (li (n + Yhe cY x.items))⟩
def Z1d (x : YS) (n : Int) : Lp Nat := .mk 49 1 (fun x => [(0, .one (.ref 0)), (1, hs x 1), (5, hs x 0)]) (fun x => [ho x 2]) (fun k => [.s (li (k : Int)),
 .s (li (n + (↑(Yhe cY (x.items.take k)) : Int))), .o (.arr true 5 ((Yjy mkY cY x.items n k).map Yhd))]) (fun k => k <= x.items.length /\ x.items.length <=
 9223372036854775807) (fun k => x.items.length - k) [.mk True (.exit 0) (fun x => [(1, hs x 0)]) (fun x => [ho x 1]) [.s (li (n + (↑(Yhe cY x.items) : Int))), .o (.arr true 5
 ((Yhu mkY cY x.items n).map Yhd))]]
theorem Z8u (x : YS) (n : Int) (h0 : 0 <= n) (h : n + (↑(Yhe cY x.items) : Int) <= 100000000000000) (ih : ∀ (z : YS), z ∈ x.items -> ∀ (n : Int), 0 <= n -> n +
 (↑(Yhe cY z.items) : Int) <= 100000000000000 -> OK (Z4 z n)) : Lp.Sem Tryz.prog (Yht Tryz.f45 0) (Z1d x n) := Yi3 (fun k => let v8 := (↑(Yhe cY
 (x.items.take k)) : Int); let v12 := (n + v8 + 1 + 1); let v7 := (x.items.getD (k : Int).toNat default); let v13 := (v7.scopes.map Yhh); let v11 := (List.map Yhd
 v7.items); let v1 := [cI (n + v8), cI (n + v8 + 1), cS (Yj7 v12), .list v13, .list v11]; let v10 := (n + v8 + 1 + 1 + 1); let v2 := [cI (n + v8), cI (n + v8 + 1), cS
 (Yj7 v12), .list ((Yhu mkI Yix v7.scopes v10).map Yhh), .list v11]; let v3 := [cI (n + v8), cI (n + v8 + 1), cS v7.text, .list v13, .list v11]; let v4 :=
 [cI (n + v8), cI v7.number, cS v7.text, .list v13, .list v11]; let v5 := ((Yjy mkY cY x.items n k).map Yhd); let v6 := (n + v8 + 1 + 1 + 1 + (↑(x.items.getD (↑k
 : Int).toNat default).scopes.length : Int)); let v9 := (v5.set (k : Int).toNat v1); .z Yhd (Yjy mkY cY x.items n k) (.i ((k : Int) < (↑((Yjy mkY cY
 x.items n k).map Yhd).length : Int)) (.p (0 <= (k : Int) /\ (k : Int).toNat < v5.length) (.w (.cells (Yhk v7)) (.p (v5[(k : Int).toNat]? = some (Yhk v7)) (.r (n + v8 + 1) (.p (0
 <= (k : Int) /\ (k : Int).toNat < (v5.set (k : Int).toNat v4).length) (.w (.take v4 (v5.set (k : Int).toNat v3) 0) (.p ((v5.set (k : Int).toNat v4)[(k : Int).toNat]? = some
 v4) (.p ((v5.set (k : Int).toNat v4).set (k : Int).toNat v3 = v5.set (k : Int).toNat v3) (.r v12 (.d [.rd] (Z1m v12) (.p (0 <= (k : Int) /\ (k : Int).toNat < (v5.set
 (k : Int).toNat v3).length) (.w (.take v3 v9 0) (.p ((v5.set (k : Int).toNat v3)[(k : Int).toNat]? = some v3) (.p ((v5.set (k : Int).toNat v3).set (k : Int).toNat v1 = v5.set
 (k : Int).toNat v1) (.r v10 (.p (0 <= (k : Int) /\ (k : Int).toNat < v9.length) (.w .sub (.p ((k : Int).toNat < v9.length) (.w (.subcall v1 v13 1) (.u [.own true 1, .rd]
 (Z1l v7.scopes v10) (.p (v9[(k : Int).toNat]? = some v1) (.p (some (Cell.list v13) = some (Cell.list v13)) (.p (∀ (x_1 : List Cell), x_1 ∈ v7.scopes.map Yhh ->
 x_1.length = 1) (.p (OK (Z1l v7.scopes v10)) (.p (0 <= (k : Int) /\ (k : Int).toNat < (v9.set (k : Int).toNat v2).length) (.w .sub (.p ((k : Int).toNat < (v9.set (↑k :
 Int).toNat v2).length) (.w (.subcall v2 v11 5) (.u [.own true 5, .rd] (Z4 v7 v6) (.p ((v9.set (k : Int).toNat v2)[(k : Int).toNat]? = some v2) (.p (some (Cell.list
 v11) = some (Cell.list v11)) (.p (∀ (x_1 : List Cell), x_1 ∈ v7.items.map Yhd -> x_1.length = 5) (.p (OK (Z4 v7 v6)) (.r ((k : Int) + 1) (.g [0] (k + 1) [.s
 (li ((k : Int) + 1)), .s (li (n + v8 + 1 + 1 + 1 + (↑(x.items.getD (k : Int).toNat default).scopes.length : Int) + (↑(Yhe cY v7.items) : Int))), .o (.arr true 5 ((v9.set (↑k
 : Int).toNat v2).set (k : Int).toNat [cI (n + v8), cI (n + v8 + 1), cS (Yj7 v12), .list ((Yhu mkI Yix v7.scopes v10).map Yhh), .list ((Yhu mkY
 cY v7.items v6).map Yhd)]))]))))))))))))))))))))))))))))))))))) (.o 0 [0] [.s (li (n + v8)), .o (.arr true 5 v5)]))) (by
 intro k h; try dsimp only [Yhj, Yhq, Z1d] at h ⊢
 have g0 := Yiw cY x.items (k + 1)
 with_reducible repeat' (first | apply And.intro | exact zR | exact ih | (intro) | apply Z6 | apply Zj | apply ih)
 all_goals (try simp only [std, Yi5, inj] at *)
 all_goals with_reducible and_intros
 all_goals try with_reducible first | apply Z6 | apply Zj | apply ih
 all_goals try first | exact z | ((first | refine Yjw ?_ | refine Ykm ?_ rfl); (first | omega | (simp only [std, Yi5]; omega) | grind)) | (refine Yjr ?_; (simp only [List.length_map, List.length_set, Yj2]; omega)) | (refine Yjs ?_; (first | omega | (simp only [std, Yi5]; omega) | grind)) | (refine Yj9 ?_ rfl; (first | omega | (simp only [std, Yi5]; omega) | grind)) | (refine Yiz ?_ ?_; (first | omega | (simp only [std, Yi5]; omega) | grind); (first | exact Y19i _ _ | grind [Yj3, Yhn, Ypi, Y19i, Yji, Yhl, Yhm, Yhi])) | grind [Yj3, Yhn, Ypi, Y19i, Yji, Yhl, Yhm, Yhi])
theorem Zab (x : YS) (n : Int) (h0 : 0 <= n) (h : n + Yhe cY x.items <= 100000000000000) (ih : ∀ z ∈ x.items, ∀ (n : Int) (h0 : 0 <= n) (h : n + Yhe cY z.items <=
 100000000000000), Z4 z n)  : Z4 x n := Yhv Tryz.call45 Tryz.func45 (.l (Z1d x n) (Z8u x n h0 h ih) [0] [.s (li 0), .s (li
 n), .o (.arr true 5 (x.items.map Yhd))] 0 (.t (.f [] [.arr true 5 ((Yhu mkY cY x.items n).map Yhd)] (.sv (li (n + (↑(Yhe cY x.items) : Int))))) .q)) (by
 dsimp only [Yhj, Z4, Yhq, Z1d]
 have gl := Y1d1 x.items
 with_reducible repeat' (first | apply And.intro | exact zR | exact ih | (intro) | apply Z6 | apply Zj)
 all_goals (try simp only [std, Yi5, inj] at *)
 all_goals with_reducible and_intros
 all_goals try with_reducible first | apply Z6 | apply Zj | apply ih
 all_goals try first | exact z | ((first | refine Yjw ?_ | refine Ykm ?_ rfl); (first | omega | (simp only [std, Yi5]; omega) | grind)) | (refine Yjr ?_; (simp only [List.length_map, List.length_set, Yj2]; omega)) | (refine Yjs ?_; (first | omega | (simp only [std, Yi5]; omega) | grind)) | (refine Yj9 ?_ rfl; (first | omega | (simp only [std, Yi5]; omega) | grind)) | (refine Yiz ?_ ?_; (first | omega | (simp only [std, Yi5]; omega) | grind); (first | grind [Yji, Yhl, Yhm, Yhi])) | grind [Yji, Yhl, Yhm, Yhi])
theorem Zp (x : YS) : ∀ (n : Int) (h0 : 0 <= n) (h : n + Yhe cY x.items <= 100000000000000), Z4 x n := YS.ind (P := fun x => ∀ (n : Int) (h0 : 0 <= n) (h : n + Yhe cY x.items <= 100000000000000), Z4 x n) (fun x ih n h0 h => Zab x n h0 h ih) x
theorem Z10 (L : List YS) (n : Int) (h0 : 0 <= n) (h : n + Yhe cY L <= 100000000000000) : Z4 { (default : YS) with items := L } n := Zp { (default : YS) with items := L } n h0 h
abbrev Z2p (x : YS) (n : Int) : Ct := ⟨23, [.arr true 1 (x.scopes.map Yhh), .arr true 5 (x.items.map Yhd)], [.agg [vI x.kind, vI x.number, vS x.text, .ref 0, .ref 1], li n], [.arr true 1 ((Yhu mkI Yix x.scopes (n)).map Yhh), .arr true 5 ((Yhu mkY cY x.items (n + x.scopes.length)).map Yhd)], .sv (li (n + x.scopes.length + Yhe cY x.items))⟩
theorem Z8v (x : YS) (n : Int) (h0 : 0 <= n) (h : n + (x.scopes.length + Yhe cY x.items : Nat) <= 100000000000000)  : Z2p x n := Yhv Tryz.call23 Tryz.func23
 (.d [.own true 1, .rd] (Z1l x.scopes n) (.d [.own true 5, .rd] (Z4 x (n + (x.scopes.length : Int))) (.f [] [.arr true 1 ((Yhu mkI Yix
 x.scopes n).map Yhh), .arr true 5 ((Yhu mkY cY x.items (n + (x.scopes.length : Int))).map Yhd)] (.sv (li (n + (x.scopes.length : Int) + (↑(Yhe cY x.items) : Int)))))))
 (by
 dsimp only [Yhj, Z2p]
 with_reducible repeat' (first | apply And.intro | exact zR | (intro) | apply Zj | apply Zp | apply Z10)
 all_goals (try simp only [std, Yi5, inj] at *)
 all_goals with_reducible and_intros
 all_goals try with_reducible first | apply Zj | apply Zp | apply Z10
 all_goals try first | exact z | ((first | refine Yjw ?_ | refine Ykm ?_ rfl); (first | omega | (simp only [std, Yi5]; omega) | grind)) | (refine Yjr ?_; (simp only [List.length_map, List.length_set, Yj2]; omega)) | (refine Yjs ?_; (first | omega | (simp only [std, Yi5]; omega) | grind)) | (refine Yj9 ?_ rfl; (first | omega | (simp only [std, Yi5]; omega) | grind)) | (refine Yiz ?_ ?_; (first | omega | (simp only [std, Yi5]; omega) | grind); (first | grind [Yhl, Yhm, Yhi])) | grind [Yhl, Yhm, Yhi])
abbrev Z3m (L : List YB) (n : Int) : Ct := ⟨44, [.arr true 4 (L.map Yhg)], [.one (.ref 0), li n], [.arr true 4 ((Yhu mkB cB L n).map Yhg)], .sv (li (n + Yhe cB L))⟩
def Z1i (L : List YB) (n : Int) : Lp Nat := .mk 42 1 (fun x => [(0, .one (.ref 0)), (1, hs x 1), (5, hs x 0)]) (fun x => [ho x 2]) (fun k => [.s (li (↑k :
 Int)), .s (li (n + (↑(Yhe cB (L.take k)) : Int))), .o (.arr true 4 ((Yjy mkB cB L n k).map Yhg))]) (fun k => k <= L.length /\ L.length <= 9223372036854775807)
 (fun k => L.length - k) [.mk True (.exit 0) (fun x => [(1, hs x 0)]) (fun x => [ho x 1]) [.s (li (n + (↑(Yhe cB L) : Int))), .o (.arr true 4 ((Yhu mkB cB L
 n).map Yhg))]]
theorem Z9b (L : List YB) (n : Int) (h0 : 0 <= n) (h : n + (↑(Yhe cB L) : Int) <= 100000000000000) : Lp.Sem Tryz.prog (Yht Tryz.f44 0) (Z1i L n)
 := Yi3 (fun k => let v9 := ((Yjy mkB cB L n k).map Yhg); let v8 := (↑(Yhe cB (L.take k)) : Int); let v7 := (L.getD (k : Int).toNat default); let v11 := [cS
 (Yj7 (n + v8)), .list (v7.scopes.map Yhh), cI v7.kind, cI v7.number]; let v1 := (v9.set (k : Int).toNat v11); let v12 := ((Yhu mkI Yix v7.scopes (n +
 v8 + 1)).map Yhh); let v10 := (↑(L.getD (k : Int).toNat default).scopes.length : Int); let v2 := [cS (Yj7 (n + v8)), .list v12, cI (n + v8 + 1 + v10), cI v7.number]; let v3 := [cS
 (Yj7 (n + v8)), .list v12, cI (n + v8 + 1 + v10), cI (n + v8 + 1 + v10 + 1)]; let v4 := [cS (Yj7 (n + v8)), .list v12, cI v7.kind, cI v7.number]; let v5 := (n + v8 + 1
 + v10 + 1 + 1); let v6 := (Z1l v7.scopes (n + v8 + 1)); .z Yhg (Yjy mkB cB L n k) (.i ((k : Int) < (↑((Yjy mkB cB L n k).map Yhg).length : Int)) (.d
 [.rd] (Z1m (n + v8)) (.p (0 <= (k : Int) /\ (k : Int).toNat < v9.length) (.w (.cells (Yhy v7)) (.p (v9[(k : Int).toNat]? = some (Yhy v7)) (.r (n + v8 + 1) (.p
 (0 <= (k : Int) /\ (k : Int).toNat < v1.length) (.w .sub (.p ((k : Int).toNat < v1.length) (.w (.subcall v11 (v7.scopes.map Yhh) 1) (.u [.own true 1, .rd] v6 (.p (v1[(↑k :
 Int).toNat]? = some v11) (.p (some (Cell.list (v7.scopes.map Yhh)) = some (Cell.list (v7.scopes.map Yhh))) (.p (∀ (x : List Cell), x ∈ v7.scopes.map Yhh ->
 x.length = 1) (.p (OK v6) (.p (0 <= (k : Int) /\ (k : Int).toNat < (v1.set (k : Int).toNat v4).length) (.w (.take v4 (v1.set (k : Int).toNat v2) 0) (.p ((v1.set (k : Int).toNat
 v4)[(k : Int).toNat]? = some v4) (.p ((v1.set (k : Int).toNat v4).set (k : Int).toNat v2 = v1.set (k : Int).toNat v2) (.r (n + v8 + 1 + v10 + 1) (.p (0 <= (k : Int) /\ (↑k :
 Int).toNat < (v1.set (k : Int).toNat v2).length) (.w (.take v2 (v1.set (k : Int).toNat v3) 0) (.p ((v1.set (k : Int).toNat v2)[(k : Int).toNat]? = some v2) (.p ((v1.set (↑k :
 Int).toNat v2).set (k : Int).toNat v3 = v1.set (k : Int).toNat v3) (.r v5 (.r ((k : Int) + 1) (.g [0] (k + 1) [.s (li ((k : Int) + 1)), .s (li v5), .o (.arr true 4 (v1.set
 (k : Int).toNat v3))])))))))))))))))))))))))))) (.o 0 [0] [.s (li (n + v8)), .o (.arr true 4 v9)]))) (by
 intro k h; try dsimp only [Yhj, Yhq, Z1i] at h ⊢
 have g0 := Yiw cB L (k + 1)
 with_reducible repeat' (first | apply And.intro | exact zR | (intro) | apply Z6 | apply Zj)
 all_goals (try simp only [std, Yi5, inj] at *)
 all_goals with_reducible and_intros
 all_goals try with_reducible first | apply Z6 | apply Zj
 all_goals try first | exact z | ((first | refine Yjw ?_ | refine Ykm ?_ rfl); (first | omega | (simp only [std, Yi5]; omega) | grind)) | (refine Yjr ?_; (simp only [List.length_map, List.length_set, Yj2]; omega)) | (refine Yjs ?_; (first | omega | (simp only [std, Yi5]; omega) | grind)) | (refine Yj9 ?_ rfl; (first | omega | (simp only [std, Yi5]; omega) | grind)) | (refine Yiz ?_ ?_; (first | omega | (simp only [std, Yi5]; omega) | grind); (first | exact Y19f _ _ | grind [Yj3, Yhn, Ysm, Y19f, Yji, Yhl, Yhm, Yhi])) | grind [Yj3, Yhn, Ysm, Y19f, Yji, Yhl, Yhm, Yhi])
theorem Z7c (L : List YB) (n : Int) (h0 : 0 <= n) (h : n + Yhe cB L <= 100000000000000)  : Z3m L n := Yhv Tryz.call44 Tryz.func44 (.l (Z1i
 L n) (Z9b L n h0 h) [0] [.s (li 0), .s (li n), .o (.arr true 4 (L.map Yhg))] 0 (.t (.f [] [.arr true 4 ((Yhu mkB cB L n).map Yhg)] (.sv
 (li (n + (↑(Yhe cB L) : Int))))) .q)) (by
 dsimp only [Yhj, Z3m, Yhq, Z1i]
 have gl := Y1bc L
 with_reducible repeat' (first | apply And.intro | exact zR | (intro) | apply Z6 | apply Zj)
 all_goals (try simp only [std, Yi5, inj] at *)
 all_goals with_reducible and_intros
 all_goals try with_reducible first | apply Z6 | apply Zj
 all_goals try first | exact z | ((first | refine Yjw ?_ | refine Ykm ?_ rfl); (first | omega | (simp only [std, Yi5]; omega) | grind)) | (refine Yjr ?_; (simp only [List.length_map, List.length_set, Yj2]; omega)) | (refine Yjs ?_; (first | omega | (simp only [std, Yi5]; omega) | grind)) | (refine Yj9 ?_ rfl; (first | omega | (simp only [std, Yi5]; omega) | grind)) | (refine Yiz ?_ ?_; (first | omega | (simp only [std, Yi5]; omega) | grind); (first | grind [Yji, Yhl, Yhm, Yhi])) | grind [Yji, Yhl, Yhm, Yhi])
abbrev Z4d (L : List YR) (n : Int) : Ct := ⟨79, [.arr true 3 (L.map Yhp)], [.one (.ref 0), li n], [.arr true 3 ((Yhu mkR cR L n).map Yhp)], .sv (li (n + Yhe cR L))⟩
def Z23 (L : List YR) (n : Int) : Lp Nat := .mk 34 1 (fun x => [(0, .one (.ref 0)), (1, hs x 1), (5, hs x 0)]) (fun x => [ho x 2]) (fun k => [.s (li (k : Int)),
 .s (li (n + (↑(Yhe cR (L.take k)) : Int))), .o (.arr true 3 ((Yjy mkR cR L n k).map Yhp))]) (fun k => k <= L.length /\ L.length <= 9223372036854775807) (fun k =>
 L.length - k) [.mk True (.exit 0) (fun x => [(1, hs x 0)]) (fun x => [ho x 1]) [.s (li (n + (↑(Yhe cR L) : Int))), .o (.arr true 3 ((Yhu mkR cR L n).map Yhp))]]
theorem Zac (L : List YR) (n : Int) (h0 : 0 <= n) (h : n + (↑(Yhe cR L) : Int) <= 100000000000000) (h2 : L.length <= 2147483647) : Lp.Sem Tryz.prog (Yht Tryz.f79
 0) (Z23 L n) := Yi3 (fun k => let v8 := ((Yjy mkR cR L n k).map Yhp); let v10 := (L.getD k default); let v11 := (↑(Yhe cR (L.take k)) : Int); let v14
 := ((Yhu mkY cY v10.literals (n + v11)).map Yhd); let v15 := (v10.patterns.map Yhd); let v13 := (v10.templates.map Yhd); let v6 := [.list v14,
 .list v15, .list v13]; let v12 := (↑(Yhe cY v10.literals) : Int); let v7 := [.list v14, .list ((Yhu mkY cY v10.patterns (n + v11 + v12)).map Yhd),
 .list v13]; let v1 := ((v8.set (k : Int).toNat v6).set (k : Int).toNat v7); let v2 := (n + v11 + v12 + (↑(Yhe cY v10.patterns) : Int)); let v3 := (Z4
 (YS.mk 0 0 default [] v10.patterns) (n + v11 + v12)); let v4 := (Z4 (YS.mk 0 0 default [] v10.literals) (n + v11)); let v5 := (v10.literals.map Yhd);
 let v9 := (Z4 (YS.mk 0 0 default [] v10.templates) v2); .z Yhp (Yjy mkR cR L n k) (.i ((k : Int) < (↑((Yjy mkR cR L n k).map Yhp).length : Int)) (.p
 (0 <= (k : Int) /\ (k : Int).toNat < v8.length) (.w .sub (.p ((k : Int).toNat < v8.length) (.w (.subcall (Yiv v10) v5 5) (.u [.own true 5, .rd] v4 (.p (v8[(k : Int).toNat]? =
 some (Yiv v10)) (.p (some (Cell.list v5) = some (Cell.list v5)) (.p (∀ (x : List Cell), x ∈ v10.literals.map Yhd -> x.length = 5) (.p (OK v4) (.p (0 <= (k : Int) /\ (↑k
 : Int).toNat < (v8.set (k : Int).toNat v6).length) (.w .sub (.p ((k : Int).toNat < (v8.set (k : Int).toNat v6).length) (.w (.subcall v6 v15 5) (.u [.own true 5, .rd] v3 (.p
 ((v8.set (k : Int).toNat v6)[(k : Int).toNat]? = some v6) (.p (some (Cell.list v15) = some (Cell.list v15)) (.p (∀ (x : List Cell), x ∈ v10.patterns.map Yhd -> x.length
 = 5) (.p (OK v3) (.p (0 <= (k : Int) /\ (k : Int).toNat < v1.length) (.w .sub (.p ((k : Int).toNat < v1.length) (.w (.subcall v7 v13 5) (.u [.own true 5, .rd] v9 (.p (v1[(↑k :
 Int).toNat]? = some v7) (.p (some (Cell.list v13) = some (Cell.list v13)) (.p (∀ (x : List Cell), x ∈ v10.templates.map Yhd -> x.length = 5) (.p (OK v9) (.r ((k : Int) +
 1) (.g [0] (k + 1) [.s (li ((k : Int) + 1)), .s (li (n + v11 + v12 + (↑(Yhe cY v10.patterns) : Int) + (↑(Yhe cY v10.templates) : Int))), .o (.arr true 3 (v1.set (↑k :
 Int).toNat [.list v14, .list ((Yhu mkY cY v10.patterns (n + v11 + v12)).map Yhd), .list ((Yhu mkY cY v10.templates
 v2).map Yhd)]))]))))))))))))))))))))))))))))) (.o 0 [0] [.s (li (n + v11)), .o (.arr true 3 v8)]))) (by
 intro k h; try dsimp only [Yhj, Yhq, Z23] at h ⊢
 have g0 := Yiw cR L (k + 1)
 with_reducible repeat' (first | apply And.intro | exact zR | (intro) | apply Zp | apply Z10)
 all_goals (try simp only [std, Yi5, inj] at *)
 all_goals with_reducible and_intros
 all_goals try with_reducible first | apply Zp | apply Z10
 all_goals try first | exact z | ((first | refine Yjw ?_ | refine Ykm ?_ rfl); (first | omega | (simp only [std, Yi5]; omega) | grind)) | (refine Yjr ?_; (simp only [List.length_map, List.length_set, Yj2]; omega)) | (refine Yjs ?_; (first | omega | (simp only [std, Yi5]; omega) | grind)) | (refine Yj9 ?_ rfl; (first | omega | (simp only [std, Yi5]; omega) | grind)) | (refine Yiz ?_ ?_; (first | omega | (simp only [std, Yi5]; omega) | grind); (first | exact Y1al _ _ | grind [Yj3, Yhn, Yvs, Y1al, Yji, Yhl, Yhm, Yhi])) | grind [Yj3, Yhn, Yvs, Y1al, Yji, Yhl, Yhm, Yhi])
theorem Z8w (L : List YR) (n : Int) (h0 : 0 <= n) (h : n + Yhe cR L <= 100000000000000) (h2 : L.length <= 2147483647)  : Z4d L n := Yhv Tryz.call79 Tryz.func79
 (.l (Z23 L n) (Zac L n h0 h h2) [0] [.s (li 0), .s (li n), .o (.arr true 3 (L.map Yhp))] 0 (.t (.f [] [.arr true 3 ((Yhu mkR
 cR L n).map Yhp)] (.sv (li (n + (↑(Yhe cR L) : Int))))) .q)) (by
 dsimp only [Yhj, Z4d, Yhq, Z23]
 with_reducible repeat' (first | apply And.intro | exact zR | (intro) | apply Zp | apply Z10)
 all_goals (try simp only [std, Yi5, inj] at *)
 all_goals with_reducible and_intros
 all_goals try with_reducible first | apply Zp | apply Z10
 all_goals try first | exact z | ((first | refine Yjw ?_ | refine Ykm ?_ rfl); (first | omega | (simp only [std, Yi5]; omega) | grind)) | (refine Yjr ?_; (simp only [List.length_map, List.length_set, Yj2]; omega)) | (refine Yjs ?_; (first | omega | (simp only [std, Yi5]; omega) | grind)) | (refine Yj9 ?_ rfl; (first | omega | (simp only [std, Yi5]; omega) | grind)) | (refine Yiz ?_ ?_; (first | omega | (simp only [std, Yi5]; omega) | grind); (first | grind [Yji, Yhl, Yhm, Yhi])) | grind [Yji, Yhl, Yhm, Yhi])
abbrev Z1v (x : YE) (n : Int) : Ct := ⟨22, [.arr true 4 (x.bindings.map Yhg), .arr true 3 (x.macros.map Yhp)], [.agg [.ref 0, .ref 1, vI x.scope, vI x.vari, vI x.steps], li n], [.arr true 4 ((Yhu mkB cB x.bindings (n)).map Yhg), .arr true 3 ((Yhu mkR cR x.macros (n + Yhe cB x.bindings)).map Yhp)], .sv (li (n + Yhe cB x.bindings + Yhe cR x.macros))⟩
theorem Z7d (x : YE) (n : Int) (h0 : 0 <= n) (h : n + (Yhe cB x.bindings + Yhe cR x.macros : Nat) <= 100000000000000) (h21 : x.macros.length <= 2147483647)  :
 Z1v x n := Yhv Tryz.call22 Tryz.func22 (.d [.own true 4, .rd] (Z3m x.bindings n) (.d [.own true 3, .rd] (Z4d x.macros (n + (↑(Yhe cB
 x.bindings) : Int))) (.f [] [.arr true 4 ((Yhu mkB cB x.bindings n).map Yhg), .arr true 3 ((Yhu mkR cR x.macros (n + (↑(Yhe cB x.bindings) :
 Int))).map Yhp)] (.sv (li (n + (↑(Yhe cB x.bindings) : Int) + (↑(Yhe cR x.macros) : Int))))))) (by
 dsimp only [Yhj, Z1v]
 with_reducible repeat' (first | apply And.intro | exact zR | (intro) | apply Z7c | apply Z8w)
 all_goals (try simp only [std, Yi5, inj] at *)
 all_goals with_reducible and_intros
 all_goals try with_reducible first | apply Z7c | apply Z8w
 all_goals try first | exact z | ((first | refine Yjw ?_ | refine Ykm ?_ rfl); (first | omega | (simp only [std, Yi5]; omega) | grind)) | (refine Yjr ?_; (simp only [List.length_map, List.length_set, Yj2]; omega)) | (refine Yjs ?_; (first | omega | (simp only [std, Yi5]; omega) | grind)) | (refine Yj9 ?_ rfl; (first | omega | (simp only [std, Yi5]; omega) | grind)) | (refine Yiz ?_ ?_; (first | omega | (simp only [std, Yi5]; omega) | grind); (first | grind [Yhl, Yhm, Yhi])) | grind [Yhl, Yhm, Yhi])
set_option maxHeartbeats 4000000
abbrev Z2j (L : List Int) (n : Int) : Ct := ⟨99, [], [ll (L.map Yhh), li n], [], .sv (li (n + L.length))⟩
def Z3g (L : List Int) (n : Int) : Lp Nat := .mk 21 0 (fun x => [(0, ll (L.map Yhh)), (1, hs x 1), (5, hs x 0)]) (fun x => []) (fun k => [.s (li (k : Int)), .s (li
 (n + (k : Int)))]) (fun k => k <= L.length /\ L.length <= 9223372036854775807) (fun k => L.length - k) [.mk True (.exit 0) (fun x => [(1, hs x 0)]) (fun x => []) [.s (li (n +
 (L.length : Int)))], .mk False .ret (fun x => [(4, hs x 0)]) (fun x => []) [.s (li (-1 : Int))]]
theorem Zc6 (L : List Int) (n : Int) (h0 : 0 <= n) (h : n + (L.length : Int) <= 100000000000000) (hm : Yhu mkI Yix L n = L) : Lp.Sem Tryz.prog (Yht Tryz.f99 0)
 (Z3g L n) := Yi3 (fun k => .z Yhh L (.i ((k : Int) < (↑(L.map Yhh).length : Int)) (.x (k : Int) (L.map Yhh) [cI (L.getD k 0)] (.i (L.getD k (0 : Int) ≠ n
 + (k : Int)) (.o 1 [] [.s (li (-1 : Int))]) (.r (n + (k : Int) + 1) (.r ((k : Int) + 1) (.g [] (k + 1) [.s (li ((k : Int) + 1)), .s (li (n + (k : Int) + 1))]))))) (.o 0 []
 [.s (li (n + (k : Int)))]))) (by
 intro k h; try dsimp only [Yhj, Yhq, Z3g] at h ⊢
 with_reducible repeat' (first | apply And.intro | exact zR | (intro))
 all_goals (try simp only [std, Yi5, inj] at *)
 all_goals with_reducible and_intros
 all_goals try first | exact z | ((first | refine Yjw ?_ | refine Ykm ?_ rfl); (first | omega | (simp only [std, Yi5]; omega) | grind)) | (refine Yjr ?_; (simp only [List.length_map, List.length_set, Yj2]; omega)) | (refine Yjs ?_; (first | omega | (simp only [std, Yi5]; omega) | grind)) | (refine Yj9 ?_ rfl; (first | omega | (simp only [std, Yi5]; omega) | grind)) | (refine Yiz ?_ ?_; (first | omega | (simp only [std, Yi5]; omega) | grind); (first | grind [Y13i hm, Yhl, Yhm, Yhi])) | grind [Y13i hm, Yhl, Yhm, Yhi])
theorem Zk (L : List Int) (n : Int) (h0 : 0 <= n) (h : n + L.length <= 100000000000000) (hm : Yhu mkI Yix L n = L)  : Z2j L n := Yhv Tryz.call99 Tryz.func99 (.l
 (Z3g L n) (Zc6 L n h0 h hm) [] [.s (li 0), .s (li n)] 0 (.t (.s (li (n + (L.length : Int)))) (.t (.s (li (-1 : Int))) .q))) (by
 dsimp only [Yhj, Z2j, Yhq, Z3g]
 with_reducible repeat' (first | apply And.intro | exact zR | (intro))
 all_goals (try simp only [std, Yi5, inj] at *)
 all_goals with_reducible and_intros
 all_goals try first | exact z | ((first | refine Yjw ?_ | refine Ykm ?_ rfl); (first | omega | (simp only [std, Yi5]; omega) | grind)) | (refine Yjr ?_; (simp only [List.length_map, List.length_set, Yj2]; omega)) | (refine Yjs ?_; (first | omega | (simp only [std, Yi5]; omega) | grind)) | (refine Yj9 ?_ rfl; (first | omega | (simp only [std, Yi5]; omega) | grind)) | (refine Yiz ?_ ?_; (first | omega | (simp only [std, Yi5]; omega) | grind); (first | grind [Yhl, Yhm, Yhi])) | grind [Yhl, Yhm, Yhi])
abbrev Z5 (x : YS) (n : Int) : Ct := ⟨55, [], [ll (x.items.map Yhd), li n], [], .sv (li (n + Yhe cY x.items))⟩
def Z1e (x : YS) (n : Int) : Lp Nat := .mk 59 0 (fun x_1 => [(0, ll (x.items.map Yhd)), (1, hs x_1 1), (5, hs x_1 0)]) (fun x => []) (fun k => [.s (li
 (k : Int)), .s (li (n + (↑(Yhe cY (x.items.take k)) : Int)))]) (fun k => k <= x.items.length /\ x.items.length <= 9223372036854775807) (fun k => x.items.length - k) [.mk True
 (.exit 0) (fun x => [(1, hs x 0)]) (fun x => []) [.s (li (n + (↑(Yhe cY x.items) : Int)))], .mk False .ret (fun x => [(4, hs x 0)]) (fun x => []) [.s (li (-1 : Int))]]
theorem Z8x (x : YS) (n : Int) (h0 : 0 <= n) (h : n + (↑(Yhe cY x.items) : Int) <= 100000000000000) (hm : Yhu mkY cY x.items n = x.items) (ih : ∀ (z : YS),
 z ∈ x.items -> ∀ (n : Int), 0 <= n -> n + (↑(Yhe cY z.items) : Int) <= 100000000000000 -> Yhu mkY cY z.items n = z.items -> OK (Z5 z n)) : Lp.Sem Tryz.prog (Yht
 Tryz.f55 0) (Z1e x n) := Yi3 (fun k => .z Yhd x.items (.i ((k : Int) < (↑(x.items.map Yhd).length : Int)) (.x (k : Int) (x.items.map Yhd)
 (Yhk (x.items.getD k default)) (.i ((x.items.getD k default).kind ≠ n + (↑(Yhe cY (x.items.take k)) : Int)) (.o 1 [] [.s (li (-1 : Int))]) (.r (n + (↑(Yhe cY
 (x.items.take k)) : Int) + 1) (.x (k : Int) (x.items.map Yhd) (Yhk (x.items.getD k default)) (.i ((x.items.getD k default).number ≠ n + (↑(Yhe cY (List.take k
 x.items)) : Int) + 1) (.o 1 [] [.s (li (-1 : Int))]) (.r (n + (↑(Yhe cY (x.items.take k)) : Int) + 1 + 1) (.w (.draw []) (.x (k : Int) (x.items.map Yhd) (Yhk
 (x.items.getD k default)) (.d [.rd] (Z1m (n + (↑(Yhe cY (x.items.take k)) : Int) + 1 + 1)) (.i ((x.items.getD k default).text.data.toList ≠ (Yj7 (n + (↑(Yhe cY
 (x.items.take k)) : Int) + 1 + 1)).data.toList) (.o 1 [] [.s (li (-1 : Int))]) (.r (n + (↑(Yhe cY (x.items.take k)) : Int) + 1 + 1 + 1) (.x (k : Int) (List.map
 Yhd x.items) (Yhk (x.items.getD k default)) (.d [.rd, .rd] (Z2j (x.items.getD k default).scopes (n + (↑(Yhe cY (x.items.take k)) : Int) + 1 + 1 + 1)) (.i
 (n + (↑(Yhe cY (x.items.take k)) : Int) + 1 + 1 + 1 + (↑(x.items.getD k default).scopes.length : Int) < 0) (.o 1 [] [.s (li (-1 : Int))]) (.x (k : Int) (List.map Yhd
 x.items) (Yhk (x.items.getD k default)) (.d [.rd, .rd] (Z5 (x.items.getD k default) (n + (↑(Yhe cY (x.items.take k)) : Int) + 1 + 1 + 1 + (↑(x.items.getD k
 default).scopes.length : Int))) (.i (n + (↑(Yhe cY (x.items.take k)) : Int) + 1 + 1 + 1 + (↑(x.items.getD k default).scopes.length : Int) + (↑(Yhe cY (x.items.getD k
 default).items) : Int) < 0) (.o 1 [] [.s (li (-1 : Int))]) (.r ((k : Int) + 1) (.g [] (k + 1) [.s (li ((k : Int) + 1)), .s (li (n + (↑(Yhe cY (x.items.take k)) : Int) + 1
 + 1 + 1 + (↑(x.items.getD k default).scopes.length : Int) + (↑(Yhe cY (x.items.getD k default).items) : Int)))]))))))))))))))))))) (.o 0 [] [.s (li (n + (↑(Yhe cY (List.take k
 x.items)) : Int)))]))) (by
 intro k h; try dsimp only [Yhj, Yhq, Z1e] at h ⊢
 have g0 := Yiw cY x.items (k + 1)
 have g1 := fun hk : k < x.items.length => Y1gr (Ysr hm hk)
 with_reducible repeat' (first | apply And.intro | exact zR | exact ih | (intro) | apply Z6 | apply Zk | apply ih)
 all_goals (try simp only [std, Yi5, inj] at *)
 all_goals with_reducible and_intros
 all_goals try with_reducible first | apply Z6 | apply Zk | apply ih
 all_goals try first | exact z | ((first | refine Yjw ?_ | refine Ykm ?_ rfl); (first | omega | (simp only [std, Yi5]; omega) | grind)) | (refine Yjr ?_; (simp only [List.length_map, List.length_set, Yj2]; omega)) | (refine Yjs ?_; (first | omega | (simp only [std, Yi5]; omega) | grind)) | (refine Yj9 ?_ rfl; (first | omega | (simp only [std, Yi5]; omega) | grind)) | (refine Yiz ?_ ?_; (first | omega | (simp only [std, Yi5]; omega) | grind); (first | grind [Yj3, Yhn, Ypi, Yhl, Yhm, Yhi])) | grind [Yj3, Yhn, Ypi, Yhl, Yhm, Yhi])
theorem Zad (x : YS) (n : Int) (h0 : 0 <= n) (h : n + Yhe cY x.items <= 100000000000000) (hm : Yhu mkY cY x.items n = x.items) (ih : ∀ z ∈ x.items, ∀ (n : Int) (h0
 : 0 <= n) (h : n + Yhe cY z.items <= 100000000000000) (hm : Yhu mkY cY z.items n = z.items), Z5 z n)  : Z5 x n := Yhv Tryz.call55 Tryz.func55 (.l
 (Z1e x n) (Z8x x n h0 h hm ih) [] [.s (li 0), .s (li n)] 0 (.t (.s (li (n + (↑(Yhe cY x.items) : Int)))) (.t (.s (li (-1 : Int))) .q))) (by
 dsimp only [Yhj, Z5, Yhq, Z1e]
 have gl := Y1d1 x.items
 with_reducible repeat' (first | apply And.intro | exact zR | exact ih | (intro) | apply Z6 | apply Zk)
 all_goals (try simp only [std, Yi5, inj] at *)
 all_goals with_reducible and_intros
 all_goals try with_reducible first | apply Z6 | apply Zk | apply ih
 all_goals try first | exact z | ((first | refine Yjw ?_ | refine Ykm ?_ rfl); (first | omega | (simp only [std, Yi5]; omega) | grind)) | (refine Yjr ?_; (simp only [List.length_map, List.length_set, Yj2]; omega)) | (refine Yjs ?_; (first | omega | (simp only [std, Yi5]; omega) | grind)) | (refine Yj9 ?_ rfl; (first | omega | (simp only [std, Yi5]; omega) | grind)) | (refine Yiz ?_ ?_; (first | omega | (simp only [std, Yi5]; omega) | grind); (first | grind [Yji, Yhl, Yhm, Yhi])) | grind [Yji, Yhl, Yhm, Yhi])
theorem Zq (x : YS) : ∀ (n : Int) (h0 : 0 <= n) (h : n + Yhe cY x.items <= 100000000000000) (hm : Yhu mkY cY x.items n = x.items), Z5 x n := YS.ind (P := fun x => ∀ (n : Int) (h0 : 0 <= n) (h : n + Yhe cY x.items <= 100000000000000) (hm : Yhu mkY cY x.items n = x.items), Z5 x n) (fun x ih n h0 h hm => Zad x n h0 h hm ih) x
theorem Z11 (L : List YS) (n : Int) (h0 : 0 <= n) (h : n + Yhe cY L <= 100000000000000) (hm : Yhu mkY cY L n = L) : Z5 { (default : YS) with items := L } n := Zq { (default : YS) with items := L } n h0 h hm
abbrev Z2q (x : YS) (n : Int) : Ct := ⟨50, [], [.agg [vI x.kind, vI x.number, vS x.text, vL (x.scopes.map Yhh), vL (x.items.map Yhd)], li n], [], .sv (li (n + x.scopes.length + Yhe cY x.items))⟩
theorem Z8y (x : YS) (n : Int) (h0 : 0 <= n) (h : n + (x.scopes.length + Yhe cY x.items : Nat) <= 100000000000000) (hm0 : Yhu mkI Yix x.scopes (n) = x.scopes) (hm1 :
 Yhu mkY cY x.items (n + x.scopes.length) = x.items)  : Z2q x n := Yhv Tryz.call50 Tryz.func50 (.d [.rd, .rd] (Z2j x.scopes n) (.i (n + (x.scopes.length : Int)
 < 0) (.s (li (-1 : Int))) (.d [.rd, .rd] (Z5 x (n + (x.scopes.length : Int))) (.i (n + (x.scopes.length : Int) + (↑(Yhe cY x.items) : Int) < 0) (.s (li (-1 :
 Int))) (.s (li (n + (x.scopes.length : Int) + (↑(Yhe cY x.items) : Int)))))))) (by
 dsimp only [Yhj, Z2q]
 with_reducible repeat' (first | apply And.intro | exact zR | (intro) | apply Zk | apply Zq | apply Z11)
 all_goals (try simp only [std, Yi5, inj] at *)
 all_goals with_reducible and_intros
 all_goals try with_reducible first | apply Zk | apply Zq | apply Z11
 all_goals try first | exact z | ((first | refine Yjw ?_ | refine Ykm ?_ rfl); (first | omega | (simp only [std, Yi5]; omega) | grind)) | (refine Yjr ?_; (simp only [List.length_map, List.length_set, Yj2]; omega)) | (refine Yjs ?_; (first | omega | (simp only [std, Yi5]; omega) | grind)) | (refine Yj9 ?_ rfl; (first | omega | (simp only [std, Yi5]; omega) | grind)) | (refine Yiz ?_ ?_; (first | omega | (simp only [std, Yi5]; omega) | grind); (first | grind [Yhl, Yhm, Yhi])) | grind [Yhl, Yhm, Yhi])
abbrev Z3n (L : List YB) (n : Int) : Ct := ⟨81, [], [ll (L.map Yhg), li n], [], .sv (li (n + Yhe cB L))⟩
def Z1j (L : List YB) (n : Int) : Lp Nat := .mk 50 0 (fun x => [(0, ll (L.map Yhg)), (1, hs x 1), (5, hs x 0)]) (fun x => []) (fun k => [.s (li (↑k :
 Int)), .s (li (n + (↑(Yhe cB (L.take k)) : Int)))]) (fun k => k <= L.length /\ L.length <= 9223372036854775807) (fun k => L.length - k) [.mk True (.exit 0) (fun x => [(1, hs x
 0)]) (fun x => []) [.s (li (n + (↑(Yhe cB L) : Int)))], .mk False .ret (fun x => [(4, hs x 0)]) (fun x => []) [.s (li (-1 : Int))]]
theorem Z9c (L : List YB) (n : Int) (h0 : 0 <= n) (h : n + (↑(Yhe cB L) : Int) <= 100000000000000) (hm : Yhu mkB cB L n = L) : Lp.Sem Tryz.prog (Yht Tryz.f81
 0) (Z1j L n) := Yi3 (fun k => .z Yhg L (.i ((k : Int) < (↑(L.map Yhg).length : Int)) (.w (.draw []) (.x (k : Int) (L.map Yhg) (Yhy
 (L.getD k default)) (.d [.rd] (Z1m (n + (↑(Yhe cB (L.take k)) : Int))) (.i ((L.getD k default).text.data.toList ≠ (Yj7 (n + (↑(Yhe cB (L.take k)) :
 Int))).data.toList) (.o 1 [] [.s (li (-1 : Int))]) (.r (n + (↑(Yhe cB (L.take k)) : Int) + 1) (.x (k : Int) (L.map Yhg) (Yhy (L.getD k default)) (.d [.rd,
 .rd] (Z2j (L.getD k default).scopes (n + (↑(Yhe cB (L.take k)) : Int) + 1)) (.i (n + (↑(Yhe cB (L.take k)) : Int) + 1 + (↑(L.getD k default).scopes.length :
 Int) < 0) (.o 1 [] [.s (li (-1 : Int))]) (.x (k : Int) (L.map Yhg) (Yhy (L.getD k default)) (.i ((L.getD k default).kind ≠ n + (↑(Yhe cB (L.take k)) : Int)
 + 1 + (↑(L.getD k default).scopes.length : Int)) (.o 1 [] [.s (li (-1 : Int))]) (.r (n + (↑(Yhe cB (L.take k)) : Int) + 1 + (↑(L.getD k default).scopes.length : Int) + 1)
 (.x (k : Int) (L.map Yhg) (Yhy (L.getD k default)) (.i ((L.getD k default).number ≠ n + (↑(Yhe cB (L.take k)) : Int) + 1 + (↑(L.getD k
 default).scopes.length : Int) + 1) (.o 1 [] [.s (li (-1 : Int))]) (.r (n + (↑(Yhe cB (L.take k)) : Int) + 1 + (↑(L.getD k default).scopes.length : Int) + 1 + 1) (.r ((↑k :
 Int) + 1) (.g [] (k + 1) [.s (li ((k : Int) + 1)), .s (li (n + (↑(Yhe cB (L.take k)) : Int) + 1 + (↑(L.getD k default).scopes.length : Int) + 1 + 1))])))))))))))))))) (.o
 0 [] [.s (li (n + (↑(Yhe cB (L.take k)) : Int)))]))) (by
 intro k h; try dsimp only [Yhj, Yhq, Z1j] at h ⊢
 have g0 := Yiw cB L (k + 1)
 have g1 := fun hk : k < L.length => Y1gu (Ysr hm hk)
 with_reducible repeat' (first | apply And.intro | exact zR | (intro) | apply Z6 | apply Zk)
 all_goals (try simp only [std, Yi5, inj] at *)
 all_goals with_reducible and_intros
 all_goals try with_reducible first | apply Z6 | apply Zk
 all_goals try first | exact z | ((first | refine Yjw ?_ | refine Ykm ?_ rfl); (first | omega | (simp only [std, Yi5]; omega) | grind)) | (refine Yjr ?_; (simp only [List.length_map, List.length_set, Yj2]; omega)) | (refine Yjs ?_; (first | omega | (simp only [std, Yi5]; omega) | grind)) | (refine Yj9 ?_ rfl; (first | omega | (simp only [std, Yi5]; omega) | grind)) | (refine Yiz ?_ ?_; (first | omega | (simp only [std, Yi5]; omega) | grind); (first | grind [Yj3, Yhn, Ysm, Yhl, Yhm, Yhi])) | grind [Yj3, Yhn, Ysm, Yhl, Yhm, Yhi])
theorem Z7e (L : List YB) (n : Int) (h0 : 0 <= n) (h : n + Yhe cB L <= 100000000000000) (hm : Yhu mkB cB L n = L)  : Z3n L n := Yhv Tryz.call81
 Tryz.func81 (.l (Z1j L n) (Z9c L n h0 h hm) [] [.s (li 0), .s (li n)] 0 (.t (.s (li (n + (↑(Yhe cB L) : Int)))) (.t (.s (li (-1 : Int))) .q))) (by
 dsimp only [Yhj, Z3n, Yhq, Z1j]
 have gl := Y1bc L
 with_reducible repeat' (first | apply And.intro | exact zR | (intro) | apply Z6 | apply Zk)
 all_goals (try simp only [std, Yi5, inj] at *)
 all_goals with_reducible and_intros
 all_goals try with_reducible first | apply Z6 | apply Zk
 all_goals try first | exact z | ((first | refine Yjw ?_ | refine Ykm ?_ rfl); (first | omega | (simp only [std, Yi5]; omega) | grind)) | (refine Yjr ?_; (simp only [List.length_map, List.length_set, Yj2]; omega)) | (refine Yjs ?_; (first | omega | (simp only [std, Yi5]; omega) | grind)) | (refine Yj9 ?_ rfl; (first | omega | (simp only [std, Yi5]; omega) | grind)) | (refine Yiz ?_ ?_; (first | omega | (simp only [std, Yi5]; omega) | grind); (first | grind [Yji, Yhl, Yhm, Yhi])) | grind [Yji, Yhl, Yhm, Yhi])
abbrev Z4e (L : List YR) (n : Int) : Ct := ⟨82, [], [ll (L.map Yhp), li n], [], .sv (li (n + Yhe cR L))⟩
def Z24 (L : List YR) (n : Int) : Lp Nat := .mk 40 0 (fun x => [(0, ll (L.map Yhp)), (1, hs x 1), (5, hs x 0)]) (fun x => []) (fun k => [.s (li (k : Int)),
 .s (li (n + (↑(Yhe cR (L.take k)) : Int)))]) (fun k => k <= L.length /\ L.length <= 9223372036854775807) (fun k => L.length - k) [.mk True (.exit 0) (fun x => [(1, hs x 0)])
 (fun x => []) [.s (li (n + (↑(Yhe cR L) : Int)))], .mk False .ret (fun x => [(4, hs x 0)]) (fun x => []) [.s (li (-1 : Int))]]
theorem Zae (L : List YR) (n : Int) (h0 : 0 <= n) (h : n + (↑(Yhe cR L) : Int) <= 100000000000000) (h2 : L.length <= 2147483647) (hm : Yhu mkR cR L n = L) : Lp.Sem
 Tryz.prog (Yht Tryz.f82 0) (Z24 L n) := Yi3 (fun k => .z Yhp L (.i ((k : Int) < (↑(L.map Yhp).length : Int)) (.x (k : Int) (L.map Yhp) (Yiv
 (L.getD k default)) (.d [.rd, .rd] (Z5 (YS.mk 0 0 default [] (L.getD k default).literals) (n + (↑(Yhe cR (L.take k)) : Int))) (.i (n + (↑(Yhe cR
 (L.take k)) : Int) + (↑(Yhe cY (L.getD k default).literals) : Int) < 0) (.o 1 [] [.s (li (-1 : Int))]) (.x (k : Int) (L.map Yhp) (Yiv (L.getD k default)) (.d
 [.rd, .rd] (Z5 (YS.mk 0 0 default [] (L.getD k default).patterns) (n + (↑(Yhe cR (L.take k)) : Int) + (↑(Yhe cY (L.getD k default).literals) : Int))) (.i
 (n + (↑(Yhe cR (L.take k)) : Int) + (↑(Yhe cY (L.getD k default).literals) : Int) + (↑(Yhe cY (L.getD k default).patterns) : Int) < 0) (.o 1 [] [.s (li (-1 : Int))])
 (.x (k : Int) (L.map Yhp) (Yiv (L.getD k default)) (.d [.rd, .rd] (Z5 (YS.mk 0 0 default [] (L.getD k default).templates) (n + (↑(Yhe cR (List.take
 k L)) : Int) + (↑(Yhe cY (L.getD k default).literals) : Int) + (↑(Yhe cY (L.getD k default).patterns) : Int))) (.i (n + (↑(Yhe cR (L.take k)) : Int) + (↑(Yhe cY
 (L.getD k default).literals) : Int) + (↑(Yhe cY (L.getD k default).patterns) : Int) + (↑(Yhe cY (L.getD k default).templates) : Int) < 0) (.o 1 [] [.s (li (-1 : Int))]) (.r
 ((k : Int) + 1) (.g [] (k + 1) [.s (li ((k : Int) + 1)), .s (li (n + (↑(Yhe cR (L.take k)) : Int) + (↑(Yhe cY (L.getD k default).literals) : Int) + (↑(Yhe cY (L.getD
 k default).patterns) : Int) + (↑(Yhe cY (L.getD k default).templates) : Int)))]))))))))))) (.o 0 [] [.s (li (n + (↑(Yhe cR (L.take k)) : Int)))]))) (by
 intro k h; try dsimp only [Yhj, Yhq, Z24] at h ⊢
 have g0 := Yiw cR L (k + 1)
 have g1 := fun hk : k < L.length => Y1gv (Ysr hm hk)
 with_reducible repeat' (first | apply And.intro | exact zR | (intro) | apply Zq | apply Z11)
 all_goals (try simp only [std, Yi5, inj] at *)
 all_goals with_reducible and_intros
 all_goals try with_reducible first | apply Zq | apply Z11
 all_goals try first | exact z | ((first | refine Yjw ?_ | refine Ykm ?_ rfl); (first | omega | (simp only [std, Yi5]; omega) | grind)) | (refine Yjr ?_; (simp only [List.length_map, List.length_set, Yj2]; omega)) | (refine Yjs ?_; (first | omega | (simp only [std, Yi5]; omega) | grind)) | (refine Yj9 ?_ rfl; (first | omega | (simp only [std, Yi5]; omega) | grind)) | (refine Yiz ?_ ?_; (first | omega | (simp only [std, Yi5]; omega) | grind); (first | grind [Yj3, Yhn, Yvs, Yhl, Yhm, Yhi])) | grind [Yj3, Yhn, Yvs, Yhl, Yhm, Yhi])
theorem Z8z (L : List YR) (n : Int) (h0 : 0 <= n) (h : n + Yhe cR L <= 100000000000000) (h2 : L.length <= 2147483647) (hm : Yhu mkR cR L n = L)  : Z4e L n :=
 Yhv Tryz.call82 Tryz.func82 (.l (Z24 L n) (Zae L n h0 h h2 hm) [] [.s (li 0), .s (li n)] 0 (.t (.s (li (n + (↑(Yhe cR L) : Int)))) (.t (.s (li (-1 :
 Int))) .q))) (by
 dsimp only [Yhj, Z4e, Yhq, Z24]
 with_reducible repeat' (first | apply And.intro | exact zR | (intro) | apply Zq | apply Z11)
 all_goals (try simp only [std, Yi5, inj] at *)
 all_goals with_reducible and_intros
 all_goals try with_reducible first | apply Zq | apply Z11
 all_goals try first | exact z | ((first | refine Yjw ?_ | refine Ykm ?_ rfl); (first | omega | (simp only [std, Yi5]; omega) | grind)) | (refine Yjr ?_; (simp only [List.length_map, List.length_set, Yj2]; omega)) | (refine Yjs ?_; (first | omega | (simp only [std, Yi5]; omega) | grind)) | (refine Yj9 ?_ rfl; (first | omega | (simp only [std, Yi5]; omega) | grind)) | (refine Yiz ?_ ?_; (first | omega | (simp only [std, Yi5]; omega) | grind); (first | grind [Yji, Yhl, Yhm, Yhi])) | grind [Yji, Yhl, Yhm, Yhi])
abbrev Z1w (x : YE) (n : Int) : Ct := ⟨25, [], [.agg [vL (x.bindings.map Yhg), vL (x.macros.map Yhp), vI x.scope, vI x.vari, vI x.steps], li n], [], .sv (li (n + Yhe cB x.bindings + Yhe cR x.macros))⟩
theorem Z7f (x : YE) (n : Int) (h0 : 0 <= n) (h : n + (Yhe cB x.bindings + Yhe cR x.macros : Nat) <= 100000000000000) (h21 : x.macros.length <= 2147483647) (hm0 :
 Yhu mkB cB x.bindings (n) = x.bindings) (hm1 : Yhu mkR cR x.macros (n + Yhe cB x.bindings) = x.macros)  : Z1w x n := Yhv Tryz.call25 Tryz.func25 (.d [.rd, .rd]
 (Z3n x.bindings n) (.i (n + (↑(Yhe cB x.bindings) : Int) < 0) (.s (li (-1 : Int))) (.d [.rd, .rd] (Z4e x.macros (n + (↑(Yhe cB x.bindings) : Int))) (.i
 (n + (↑(Yhe cB x.bindings) : Int) + (↑(Yhe cR x.macros) : Int) < 0) (.s (li (-1 : Int))) (.s (li (n + (↑(Yhe cB x.bindings) : Int) + (↑(Yhe cR x.macros) : Int)))))))) (by
 dsimp only [Yhj, Z1w]
 with_reducible repeat' (first | apply And.intro | exact zR | (intro) | apply Z7e | apply Z8z)
 all_goals (try simp only [std, Yi5, inj] at *)
 all_goals with_reducible and_intros
 all_goals try with_reducible first | apply Z7e | apply Z8z
 all_goals try first | exact z | ((first | refine Yjw ?_ | refine Ykm ?_ rfl); (first | omega | (simp only [std, Yi5]; omega) | grind)) | (refine Yjr ?_; (simp only [List.length_map, List.length_set, Yj2]; omega)) | (refine Yjs ?_; (first | omega | (simp only [std, Yi5]; omega) | grind)) | (refine Yj9 ?_ rfl; (first | omega | (simp only [std, Yi5]; omega) | grind)) | (refine Yiz ?_ ?_; (first | omega | (simp only [std, Yi5]; omega) | grind); (first | grind [Yhl, Yhm, Yhi])) | grind [Yhl, Yhm, Yhi])
set_option maxHeartbeats 4000000
abbrev Z63 (L : List Int) (left : Int) : Ct := ⟨61, [], [ll (L.map Yhh), li left], [], .sv (li (sz L.length left))⟩
theorem Z81 (L : List Int) (left : Int) (h0 : 0 <= left) (h : left <= 2147483647)  : Z63 L left := Yhv Tryz.call61 Tryz.func61 (.z Yhh L (.r (left - (↑(List.map Yhh
 L).length : Int)) (.i (left - (↑(L.map Yhh).length : Int) < 0) (.s (li (-1 : Int))) (.s (li (left - (↑(L.map Yhh).length : Int))))))) (by
 dsimp only [Yhj, Z63]
 with_reducible repeat' (first | apply And.intro | exact zR | (intro))
 all_goals ((try simp only [std, inj] at *); with_reducible and_intros)
 all_goals try first | exact z | grind [sz, Yhl, Yhm, Yhi])
abbrev Z15 (L : List YS) (left : Int) : Ct := ⟨36, [], [ll (L.map Yhd), li left], [], .sv (li (sz (L.length + Yhe wY L) left))⟩
abbrev Ze (x : YS) (left : Int) : Ct := ⟨12, [], [Yhz x, li left], [], .sv (li (sz (wY x) left))⟩
def Z2r (L : List YS) (left : Int) : Lp (Nat × Int) := .mk 27 0 (fun x => [(0, ll (L.map Yhd)), (1, hs x 1), (5, hs x 0)]) (fun x => []) (fun k => [.s (li
 (k.fst : Int)), .s (li k.snd)]) (fun k => k.fst <= L.length /\ L.length <= 9223372036854775807 /\ 0 <= k.snd /\ k.snd <= left /\ sz (Yhe wY (List.drop k.fst L)) k.snd = sz (L.length +
 Yhe wY L) left) (fun k => L.length - k.fst) [.mk (0 <= sz (L.length + Yhe wY L) left) (.exit 0) (fun x => [(1, hs x 0)]) (fun x => []) [.s (li (sz (L.length + Yhe wY L)
 left))], .mk (sz (L.length + Yhe wY L) left = (-1 : Int)) .ret (fun x => [(4, hs x 0)]) (fun x => []) [.s (li (-1 : Int))]]
theorem Zaw (L : List YS) (left : Int) (h0 : 0 <= left) (h : left <= 2147483647) (ih : ∀ (x : YS), x ∈ L -> ∀ (left : Int), 0 <= left -> left <= 2147483647 -> OK
 (Ze x left)) : Lp.Sem Tryz.prog (Yht Tryz.f36 0) (Z2r L left) := Yi3 (fun k => .z Yhd L (.i ((k.fst : Int) < (↑(L.map Yhd).length : Int))
 (.x (k.fst : Int) (L.map Yhd) (Yhk (L.getD k.fst default)) (.d [.rd, .rd] (Ze (L.getD k.fst default) k.snd) (.i (sz (wY (L.getD k.fst default)) k.snd < 0)
 (.o 1 [] [.s (li (-1 : Int))]) (.r ((k.fst : Int) + 1) (.g [] (k.fst + 1, sz (wY (L.getD k.fst default)) k.snd) [.s (li ((k.fst : Int) + 1)), .s (li (sz (wY (L.getD k.fst
 default)) k.snd))]))))) (.o 0 [] [.s (li k.snd)]))) (by
 intro k h; try dsimp only [Yhj, Yhq, Z2r] at h ⊢
 obtain ⟨i, n⟩ := k
 simp only at *
 with_reducible repeat' (first | apply And.intro | exact zR | exact ih | (intro) | apply ih)
 all_goals ((try simp only [std, inj] at *); with_reducible and_intros)
 all_goals try with_reducible first | apply ih
 all_goals try first | exact z | grind [Yj4, Yhe, sz, Yhn, Yhl, Yhm, Yhi])
theorem Z53 (L : List YS) (left : Int) (h0 : 0 <= left) (h : left <= 2147483647) (ih : ∀ x ∈ L, ∀ (left : Int) (h0 : 0 <= left) (h : left <= 2147483647), Ze x
 left)  : Z15 L left := Yhv Tryz.call36 Tryz.func36 (.z Yhd L (.r (left - (↑(L.map Yhd).length : Int)) (.i (left - (↑(L.map Yhd).length : Int) < 0)
 (.s (li (-1 : Int))) (.l (Z2r L left) (Zaw L left h0 h ih) [] [.s (li 0), .s (li (left - (↑(L.map Yhd).length : Int)))] (0, left - (↑L.length :
 Int)) (.t (.s (li (sz (L.length + Yhe wY L) left))) (.t (.s (li (-1 : Int))) .q)))))) (by
 dsimp only [Yhj, Z15, Yhq, Z2r]
 with_reducible repeat' (first | apply And.intro | exact zR | exact ih | (intro))
 all_goals ((try simp only [std, inj] at *); with_reducible and_intros)
 all_goals try with_reducible first | apply ih
 all_goals try first | exact z | grind [sz, Yhl, Yhm, Yhi])
theorem Zde (x : YS) (left : Int) (h0 : 0 <= left) (h : left <= 2147483647) (ih : ∀ z ∈ x.items, ∀ (left : Int) (h0 : 0 <= left) (h : left <= 2147483647), Ze z
 left)  : Ze x left := Yhv Tryz.call12 Tryz.func12 (.h (x.text.data.toList.length <= 9223372036854775807) (.r (left - (x.text.data.toList.length : Int)) (.i (left -
 (x.text.data.toList.length : Int) < 0) (.s (li (-1 : Int))) (.d [.rd, .rd] (Z63 x.scopes (left - (x.text.data.toList.length : Int))) (.i (sz x.scopes.length (left -
 (x.text.data.toList.length : Int)) < 0) (.s (li (-1 : Int))) (.d [.rd, .rd] (Z15 x.items (sz x.scopes.length (left - (x.text.data.toList.length : Int)))) (.i (sz
 (x.items.length + Yhe wY x.items) (sz x.scopes.length (left - (x.text.data.toList.length : Int))) < 0) (.s (li (-1 : Int))) (.s (li (sz (x.items.length + Yhe wY x.items) (sz
 x.scopes.length (left - (x.text.data.toList.length : Int))))))))))))) (by
 dsimp only [Yhj, Ze]
 with_reducible repeat' (first | apply And.intro | exact zR | exact ih | (intro) | apply Z81 | apply Z53 | apply ih)
 all_goals ((try simp only [std, inj] at *); with_reducible and_intros)
 all_goals try with_reducible first | apply Z81 | apply Z53 | apply ih
 all_goals try first | exact z | grind [Yjc, sz, wS, Yhl, Yhm, Yhi])
theorem Z64 (x : YS) : ∀ (left : Int) (h0 : 0 <= left) (h : left <= 2147483647), Ze x left := YS.ind (P := fun x => ∀ (left : Int) (h0 : 0 <= left) (h : left <= 2147483647), Ze x left) (fun x ih left h0 h => Zde x left h0 h ih) x
abbrev Z5d (x : YB) (left : Int) : Ct := ⟨102, [], [Ym7 x, li left], [], .sv (li (sz (wB x) left))⟩
theorem Z54 (x : YB) (left : Int) (h0 : 0 <= left) (h : left <= 2147483647)  : Z5d x left := Yhv Tryz.call102 Tryz.func102 (.h (x.text.data.toList.length <=
 9223372036854775807) (.r (left - (x.text.data.toList.length : Int)) (.i (left - (x.text.data.toList.length : Int) < 0) (.s (li (-1 : Int))) (.d [.rd, .rd] (Z63 x.scopes
 (left - (x.text.data.toList.length : Int))) (.i (sz x.scopes.length (left - (x.text.data.toList.length : Int)) < 0) (.s (li (-1 : Int))) (.s (li (sz x.scopes.length (left -
 (x.text.data.toList.length : Int)))))))))) (by
 dsimp only [Yhj, Z5d]
 with_reducible repeat' (first | apply And.intro | exact zR | (intro) | apply Z81)
 all_goals ((try simp only [std, inj] at *); with_reducible and_intros)
 all_goals try with_reducible first | apply Z81
 all_goals try first | exact z | grind [Ytn, sz, wS, Yhl, Yhm, Yhi])
abbrev Z4f (L : List YB) (left : Int) : Ct := ⟨35, [], [ll (L.map Yhg), li left], [], .sv (li (sz (L.length + Yhe wB L) left))⟩
def Z25 (L : List YB) (left : Int) : Lp (Nat × Int) := .mk 27 0 (fun x => [(0, ll (L.map Yhg)), (1, hs x 1), (5, hs x 0)]) (fun x => []) (fun k => [.s
 (li (k.fst : Int)), .s (li k.snd)]) (fun k => k.fst <= L.length /\ L.length <= 9223372036854775807 /\ 0 <= k.snd /\ k.snd <= left /\ sz (Yhe wB (List.drop k.fst L)) k.snd = sz
 (L.length + Yhe wB L) left) (fun k => L.length - k.fst) [.mk (0 <= sz (L.length + Yhe wB L) left) (.exit 0) (fun x => [(1, hs x 0)]) (fun x => []) [.s (li (sz (L.length + Yhe
 wB L) left))], .mk (sz (L.length + Yhe wB L) left = (-1 : Int)) .ret (fun x => [(4, hs x 0)]) (fun x => []) [.s (li (-1 : Int))]]
theorem Zaf (L : List YB) (left : Int) (h0 : 0 <= left) (h : left <= 2147483647) : Lp.Sem Tryz.prog (Yht Tryz.f35 0) (Z25 L left) := Yi3 (fun k => .z
 Yhg L (.i ((k.fst : Int) < (↑(L.map Yhg).length : Int)) (.x (k.fst : Int) (L.map Yhg) (Yhy (L.getD k.fst default)) (.d [.rd, .rd] (Z5d
 (L.getD k.fst default) k.snd) (.i (sz (wB (L.getD k.fst default)) k.snd < 0) (.o 1 [] [.s (li (-1 : Int))]) (.r ((k.fst : Int) + 1) (.g [] (k.fst + 1, sz (wB (L.getD k.fst
 default)) k.snd) [.s (li ((k.fst : Int) + 1)), .s (li (sz (wB (L.getD k.fst default)) k.snd))]))))) (.o 0 [] [.s (li k.snd)]))) (by
 intro k h; try dsimp only [Yhj, Yhq, Z25] at h ⊢
 obtain ⟨i, n⟩ := k
 simp only at *
 with_reducible repeat' (first | apply And.intro | exact zR | (intro) | apply Z54)
 all_goals ((try simp only [std, inj] at *); with_reducible and_intros)
 all_goals try with_reducible first | apply Z54
 all_goals try first | exact z | grind [Yj4, Yhe, sz, Yhn, Yhl, Yhm, Yhi])
theorem Z90 (L : List YB) (left : Int) (h0 : 0 <= left) (h : left <= 2147483647)  : Z4f L left := Yhv Tryz.call35 Tryz.func35 (.z Yhg L (.r (left -
 (↑(L.map Yhg).length : Int)) (.i (left - (↑(L.map Yhg).length : Int) < 0) (.s (li (-1 : Int))) (.l (Z25 L left) (Zaf L left h0 h) []
 [.s (li 0), .s (li (left - (↑(L.map Yhg).length : Int)))] (0, left - (L.length : Int)) (.t (.s (li (sz (L.length + Yhe wB L) left))) (.t (.s (li (-1 : Int))) .q))))))
 (by
 dsimp only [Yhj, Z4f, Yhq, Z25]
 with_reducible repeat' (first | apply And.intro | exact zR | (intro) | apply Z54)
 all_goals ((try simp only [std, inj] at *); with_reducible and_intros)
 all_goals try with_reducible first | apply Z54
 all_goals try first | exact z | grind [sz, Yhl, Yhm, Yhi])
abbrev Z76 (x : YR) (left : Int) : Ct := ⟨13, [], [Ymi x, li left], [], .sv (li (sz (wR x) left))⟩
theorem Z72 (x : YR) (left : Int) (h0 : 0 <= left) (h : left <= 2147483647)  : Z76 x left := Yhv Tryz.call13 Tryz.func13 (.d [.rd, .rd] (Z15 x.literals
 left) (.i (sz (x.literals.length + Yhe wY x.literals) left < 0) (.s (li (-1 : Int))) (.d [.rd, .rd] (Z15 x.patterns (sz (x.literals.length + Yhe wY x.literals)
 left)) (.i (sz (x.patterns.length + Yhe wY x.patterns) (sz (x.literals.length + Yhe wY x.literals) left) < 0) (.s (li (-1 : Int))) (.d [.rd, .rd] (Z15 x.templates
 (sz (x.patterns.length + Yhe wY x.patterns) (sz (x.literals.length + Yhe wY x.literals) left))) (.i (sz (x.templates.length + Yhe wY x.templates) (sz (x.patterns.length +
 Yhe wY x.patterns) (sz (x.literals.length + Yhe wY x.literals) left)) < 0) (.s (li (-1 : Int))) (.s (li (sz (x.templates.length + Yhe wY x.templates) (sz (x.patterns.length
 + Yhe wY x.patterns) (sz (x.literals.length + Yhe wY x.literals) left))))))))))) (by
 dsimp only [Yhj, Z76]
 with_reducible repeat' (first | apply And.intro | exact zR | (intro) | apply Z53 | apply Z64)
 all_goals ((try simp only [std, inj] at *); with_reducible and_intros)
 all_goals try with_reducible first | apply Z53 | apply Z64
 all_goals try first | exact z | grind [Ynv, sz, wS, Yhl, Yhm, Yhi])
abbrev Z6f (L : List YR) (left : Int) : Ct := ⟨60, [], [ll (L.map Yhp), li left], [], .sv (li (sz (L.length + Yhe wR L) left))⟩
def Z3h (L : List YR) (left : Int) : Lp (Nat × Int) := .mk 27 0 (fun x => [(0, ll (L.map Yhp)), (1, hs x 1), (5, hs x 0)]) (fun x => []) (fun k => [.s (li
 (k.fst : Int)), .s (li k.snd)]) (fun k => k.fst <= L.length /\ L.length <= 9223372036854775807 /\ 0 <= k.snd /\ k.snd <= left /\ sz (Yhe wR (List.drop k.fst L)) k.snd = sz (L.length +
 Yhe wR L) left) (fun k => L.length - k.fst) [.mk (0 <= sz (L.length + Yhe wR L) left) (.exit 0) (fun x => [(1, hs x 0)]) (fun x => []) [.s (li (sz (L.length + Yhe wR L)
 left))], .mk (sz (L.length + Yhe wR L) left = (-1 : Int)) .ret (fun x => [(4, hs x 0)]) (fun x => []) [.s (li (-1 : Int))]]
theorem Zc7 (L : List YR) (left : Int) (h0 : 0 <= left) (h : left <= 2147483647) : Lp.Sem Tryz.prog (Yht Tryz.f60 0) (Z3h L left) := Yi3 (fun k => .z
 Yhp L (.i ((k.fst : Int) < (↑(L.map Yhp).length : Int)) (.x (k.fst : Int) (L.map Yhp) (Yiv (L.getD k.fst default)) (.d [.rd, .rd] (Z76 (L.getD
 k.fst default) k.snd) (.i (sz (wR (L.getD k.fst default)) k.snd < 0) (.o 1 [] [.s (li (-1 : Int))]) (.r ((k.fst : Int) + 1) (.g [] (k.fst + 1, sz (wR (L.getD k.fst default))
 k.snd) [.s (li ((k.fst : Int) + 1)), .s (li (sz (wR (L.getD k.fst default)) k.snd))]))))) (.o 0 [] [.s (li k.snd)]))) (by
 intro k h; try dsimp only [Yhj, Yhq, Z3h] at h ⊢
 obtain ⟨i, n⟩ := k
 simp only at *
 with_reducible repeat' (first | apply And.intro | exact zR | (intro) | apply Z72)
 all_goals ((try simp only [std, inj] at *); with_reducible and_intros)
 all_goals try with_reducible first | apply Z72
 all_goals try first | exact z | grind [Yj4, Yhe, sz, Yhn, Yhl, Yhm, Yhi])
theorem Zag (L : List YR) (left : Int) (h0 : 0 <= left) (h : left <= 2147483647)  : Z6f L left := Yhv Tryz.call60 Tryz.func60 (.z Yhp L (.r (left - (↑(List.map
 Yhp L).length : Int)) (.i (left - (↑(L.map Yhp).length : Int) < 0) (.s (li (-1 : Int))) (.l (Z3h L left) (Zc7 L left h0 h) [] [.s (li 0), .s (li
 (left - (↑(L.map Yhp).length : Int)))] (0, left - (L.length : Int)) (.t (.s (li (sz (L.length + Yhe wR L) left))) (.t (.s (li (-1 : Int))) .q)))))) (by
 dsimp only [Yhj, Z6f, Yhq, Z3h]
 with_reducible repeat' (first | apply And.intro | exact zR | (intro) | apply Z72)
 all_goals ((try simp only [std, inj] at *); with_reducible and_intros)
 all_goals try with_reducible first | apply Z72
 all_goals try first | exact z | grind [sz, Yhl, Yhm, Yhi])
abbrev Z4g (x : YE) (left : Int) : Ct := ⟨11, [], [Ykb x, li left], [], .sv (li (sz (wX x) left))⟩
theorem Z91 (x : YE) (left : Int) (h0 : 0 <= left) (h : left <= 2147483647)  : Z4g x left := Yhv Tryz.call11 Tryz.func11 (.d [.rd, .rd] (Z4f
 x.bindings left) (.i (sz (x.bindings.length + Yhe wB x.bindings) left < 0) (.s (li (-1 : Int))) (.d [.rd, .rd] (Z6f x.macros (sz (x.bindings.length + Yhe wB
 x.bindings) left)) (.i (sz (x.macros.length + Yhe wR x.macros) (sz (x.bindings.length + Yhe wB x.bindings) left) < 0) (.s (li (-1 : Int))) (.s (li (sz (x.macros.length + Yhe
 wR x.macros) (sz (x.bindings.length + Yhe wB x.bindings) left)))))))) (by
 dsimp only [Yhj, Z4g]
 with_reducible repeat' (first | apply And.intro | exact zR | (intro) | apply Z90 | apply Zag)
 all_goals ((try simp only [std, inj] at *); with_reducible and_intros)
 all_goals try with_reducible first | apply Z90 | apply Zag
 all_goals try first | exact z | grind [Ymg, sz, wS, Yhl, Yhm, Yhi])
set_option maxHeartbeats 4000000
abbrev Z65 (L : List Int) : Ct := ⟨69, [], [ll (L.map Yhh)], [.arr true 1 (L.map Yhh)], .sv (.one (.ref 0))⟩
def Z55 (L : List Int) : Lp Nat := .mk 22 0 (fun x => [(0, ll (L.map Yhh)), (3, .one (.ref 0)), (4, hs x 0)]) (fun x => [ho x 1]) (fun k => [.s (li (k : Int)),
 .o (.arr true 1 ((Yil L k).map Yhh))]) (fun k => k <= L.length /\ L.length <= 9223372036854775807) (fun k => L.length - k) [.mk True (.exit 0) (fun x => [(3, .one
 (.ref 0))]) (fun x => [ho x 0]) [.o (.arr true 1 (L.map Yhh))]]
theorem Ze1 (L : List Int) (h : L.length <= 1048576) : Lp.Sem Tryz.prog (Yht Tryz.f69 0) (Z55 L) := Yi3 (fun k => .z Yhh L (.i ((k : Int) < (↑(List.map Yhh
 L).length : Int)) (.x (k : Int) (L.map Yhh) [cI (L.getD k 0)] (.p (0 <= (k : Int) /\ (k : Int).toNat < ((Yil L k).map Yhh).length) (.w (.cells (Yhh ((Yil L
 k).getD (k : Int).toNat default))) (.p (((Yil L k).map Yhh)[(k : Int).toNat]? = some [cI ((Yil L k).getD (k : Int).toNat 0)]) (.r ((k : Int) + 1) (.g [0] (k + 1)
 [.s (li ((k : Int) + 1)), .o (.arr true 1 (((Yil L k).map Yhh).set (k : Int).toNat [cI (L.getD k 0)]))])))))) (.o 0 [0] [.o (.arr true 1 ((Yil L
 k).map Yhh))]))) (by
 intro k h; try dsimp only [Yhj, Yhq, Z55] at h ⊢
 with_reducible repeat' (first | apply And.intro | exact zR | (intro))
 all_goals ((try simp only [std, inj] at *); with_reducible and_intros)
 all_goals try first | exact z | exact zF | grind [Yq8, Yhl, Yhm, Yhi])
theorem Z82 (L : List Int) (h : L.length <= 1048576)  : Z65 L := Yhv Tryz.call69 Tryz.func69 (.z Yhh L (.p (0 <= (↑(L.map Yhh).length : Int) /\ 8 * (↑(List.map Yhh
 L).length : Int).toNat <= 281474976710656) (.l (Z55 L) (Ze1 L h) [0] [.s (li 0), .o (.arr true 1 (List.replicate (↑(L.map Yhh).length : Int).toNat [cI 0]))]
 0 (.t (.f [0] [.arr true 1 (L.map Yhh)] (.sv (.one (.ref 0)))) .q)))) (by
 dsimp only [Yhj, Z65, Yhq, Z55]
 with_reducible repeat' (first | apply And.intro | exact zR | (intro))
 all_goals ((try simp only [std, inj] at *); with_reducible and_intros)
 all_goals try first | exact z | exact zF | grind [Yhl, Yhm, Yhi])
abbrev Z16 (L : List YS) : Ct := ⟨39, [], [ll (L.map Yhd)], [.arr true 5 (L.map Yhd)], .sv (.one (.ref 0))⟩
abbrev Z7 (x : YS) : Ct := ⟨16, [], [Yhz x], Ykc x, .sv (Yjv x 0)⟩
def Z2s (L : List YS) : Lp Nat := .mk 23 0 (fun x => [(0, ll (L.map Yhd)), (3, .one (.ref 0)), (4, hs x 0)]) (fun x => [ho x 1]) (fun k => [.s (li (↑k :
 Int)), .o (.arr true 5 ((Yil L k).map Yhd))]) (fun k => k <= L.length /\ L.length <= 9223372036854775807) (fun k => L.length - k) [.mk True (.exit 0) (fun x => [(3,
 .one (.ref 0))]) (fun x => [ho x 0]) [.o (.arr true 5 (L.map Yhd))]]
theorem Zax (L : List YS) (h : L.length + Yhe wY L <= 1048576) (ih : ∀ (x : YS), x ∈ L -> wY x <= 1048576 -> OK (Z7 x)) : Lp.Sem Tryz.prog (Yht
 Tryz.f39 0) (Z2s L) := Yi3 (fun k => .z Yhd L (.i ((k : Int) < (↑(L.map Yhd).length : Int)) (.x (k : Int) (L.map Yhd) (Yhk (L.getD k
 default)) (.d [.rd] (Z7 (L.getD k default)) (.p (0 <= (k : Int) /\ (k : Int).toNat < ((Yil L k).map Yhd).length) (.w (.cells (Yhk ((Yil L k).getD (↑k
 : Int).toNat default))) (.p (((Yil L k).map Yhd)[(k : Int).toNat]? = some (Yhk ((Yil L k).getD (k : Int).toNat default))) (.r ((k : Int) + 1) (.g [0] (k + 1)
 [.s (li ((k : Int) + 1)), .o (.arr true 5 (((Yil L k).map Yhd).set (k : Int).toNat (Yhk (L.getD k default))))]))))))) (.o 0 [0] [.o (.arr true 5 (List.map
 Yhd (Yil L k)))]))) (by
 intro k h; try dsimp only [Yhj, Yhq, Z2s] at h ⊢
 with_reducible repeat' (first | apply And.intro | exact zR | exact ih | (intro) | apply ih)
 all_goals ((try simp only [std, inj] at *); with_reducible and_intros)
 all_goals try with_reducible first | apply ih
 all_goals try first | exact z | exact zF | grind [Yq8, Yhn, Yi9, Yhl, Yhm, Yhi])
theorem Z56 (L : List YS) (h : L.length + Yhe wY L <= 1048576) (ih : ∀ x ∈ L, ∀ (h : wY x <= 1048576), Z7 x)  : Z16 L := Yhv Tryz.call39 Tryz.func39
 (.z Yhd L (.p (0 <= (↑(L.map Yhd).length : Int) /\ 80 * (↑(L.map Yhd).length : Int).toNat <= 281474976710656) (.l (Z2s L) (Zax L h ih) [0]
 [.s (li 0), .o (.arr true 5 (List.replicate (↑(L.map Yhd).length : Int).toNat [cI 0, cI 0, cS (ByteArray.mk #[]), .list [], .list []]))] 0 (.t (.f [0] [.arr
 true 5 (L.map Yhd)] (.sv (.one (.ref 0)))) .q)))) (by
 dsimp only [Yhj, Z16, Yhq, Z2s]
 with_reducible repeat' (first | apply And.intro | exact zR | exact ih | (intro))
 all_goals ((try simp only [std, inj] at *); with_reducible and_intros)
 all_goals try with_reducible first | apply ih
 all_goals try first | exact z | exact zF | grind [Yhl, Yhm, Yhi])
theorem Zdf (x : YS) (h : wY x <= 1048576) (ih : ∀ z ∈ x.items, ∀ (h : wY z <= 1048576), Z7 z)  : Z7 x := Yhv Tryz.call16 Tryz.func16 (.d [.rd]
 (Z65 x.scopes) (.d [.rd] (Z16 x.items) (.f [3, 4] [.arr true 1 (x.scopes.map Yhh), .arr true 5 (x.items.map Yhd)] (.sv (.agg [vI x.kind, vI
 x.number, vS x.text, .ref 0, .ref 1]))))) (by
 dsimp only [Yhj, Z7]
 with_reducible repeat' (first | apply And.intro | exact zR | exact ih | (intro) | apply Z82 | apply Z56 | apply ih)
 all_goals ((try simp only [std, inj] at *); with_reducible and_intros)
 all_goals try with_reducible first | apply Z82 | apply Z56 | apply ih
 all_goals try first | exact z | exact zF | grind [Yjc, wS, Yhl, Yhm, Yhi])
theorem Z66 (x : YS) : ∀ (h : wY x <= 1048576), Z7 x := YS.ind (P := fun x => ∀ (h : wY x <= 1048576), Z7 x) (fun x ih h => Zdf x h ih) x
abbrev Z5e (x : YB) : Ct := ⟨107, [], [Ym7 x], Ywu x, .sv (Yxd x 0)⟩
theorem Z57 (x : YB) (h : wB x <= 1048576)  : Z5e x := Yhv Tryz.call107 Tryz.func107 (.d [.rd] (Z65 x.scopes) (.f [3] [.arr true 1 (List.map Yhh
 x.scopes)] (.sv (.agg [vS x.text, .ref 0, vI x.kind, vI x.number])))) (by
 dsimp only [Yhj, Z5e]
 with_reducible repeat' (first | apply And.intro | exact zR | (intro) | apply Z82)
 all_goals ((try simp only [std, inj] at *); with_reducible and_intros)
 all_goals try with_reducible first | apply Z82
 all_goals try first | exact z | exact zF | grind [Ytn, wS, Yhl, Yhm, Yhi])
abbrev Z4h (L : List YB) : Ct := ⟨38, [], [ll (L.map Yhg)], [.arr true 4 (L.map Yhg)], .sv (.one (.ref 0))⟩
def Z26 (L : List YB) : Lp Nat := .mk 23 0 (fun x => [(0, ll (L.map Yhg)), (3, .one (.ref 0)), (4, hs x 0)]) (fun x => [ho x 1]) (fun k => [.s (li
 (k : Int)), .o (.arr true 4 ((Yil L k).map Yhg))]) (fun k => k <= L.length /\ L.length <= 9223372036854775807) (fun k => L.length - k) [.mk True (.exit 0) (fun x =>
 [(3, .one (.ref 0))]) (fun x => [ho x 0]) [.o (.arr true 4 (L.map Yhg))]]
theorem Zah (L : List YB) (h : L.length + Yhe wB L <= 1048576) : Lp.Sem Tryz.prog (Yht Tryz.f38 0) (Z26 L) := Yi3 (fun k => .z Yhg L (.i ((↑k
 : Int) < (↑(L.map Yhg).length : Int)) (.x (k : Int) (L.map Yhg) (Yhy (L.getD k default)) (.d [.rd] (Z5e (L.getD k default)) (.p (0 <= (k : Int)
 /\ (k : Int).toNat < ((Yil L k).map Yhg).length) (.w (.cells (Yhy ((Yil L k).getD (k : Int).toNat default))) (.p (((Yil L k).map Yhg)[(↑k :
 Int).toNat]? = some (Yhy ((Yil L k).getD (k : Int).toNat default))) (.r ((k : Int) + 1) (.g [0] (k + 1) [.s (li ((k : Int) + 1)), .o (.arr true 4 ((List.map Yhg
 (Yil L k)).set (k : Int).toNat (Yhy (L.getD k default))))]))))))) (.o 0 [0] [.o (.arr true 4 ((Yil L k).map Yhg))]))) (by
 intro k h; try dsimp only [Yhj, Yhq, Z26] at h ⊢
 with_reducible repeat' (first | apply And.intro | exact zR | (intro) | apply Z57)
 all_goals ((try simp only [std, inj] at *); with_reducible and_intros)
 all_goals try with_reducible first | apply Z57
 all_goals try first | exact z | exact zF | grind [Yq8, Yhn, Yi9, Yhl, Yhm, Yhi])
theorem Z92 (L : List YB) (h : L.length + Yhe wB L <= 1048576)  : Z4h L := Yhv Tryz.call38 Tryz.func38 (.z Yhg L (.p (0 <= (↑(List.map Yhg
 L).length : Int) /\ 56 * (↑(L.map Yhg).length : Int).toNat <= 281474976710656) (.l (Z26 L) (Zah L h) [0] [.s (li 0), .o (.arr true 4
 (List.replicate (↑(L.map Yhg).length : Int).toNat [cS (ByteArray.mk #[]), .list [], cI 0, cI 0]))] 0 (.t (.f [0] [.arr true 4 (L.map Yhg)] (.sv (.one
 (.ref 0)))) .q)))) (by
 dsimp only [Yhj, Z4h, Yhq, Z26]
 with_reducible repeat' (first | apply And.intro | exact zR | (intro) | apply Z57)
 all_goals ((try simp only [std, inj] at *); with_reducible and_intros)
 all_goals try with_reducible first | apply Z57
 all_goals try first | exact z | exact zF | grind [Yhl, Yhm, Yhi])
abbrev Z77 (x : YR) : Ct := ⟨17, [], [Ymi x], Y15t x, .sv (Y12z x 0)⟩
theorem Z73 (x : YR) (h : wR x <= 1048576)  : Z77 x := Yhv Tryz.call17 Tryz.func17 (.d [.rd] (Z16 x.literals) (.d [.rd] (Z16 x.patterns) (.d
 [.rd] (Z16 x.templates) (.f [3, 4, 5] [.arr true 5 (x.literals.map Yhd), .arr true 5 (x.patterns.map Yhd), .arr true 5 (List.map Yhd
 x.templates)] (.sv (.agg [.ref 0, .ref 1, .ref 2])))))) (by
 dsimp only [Yhj, Z77]
 with_reducible repeat' (first | apply And.intro | exact zR | (intro) | apply Z56 | apply Z66)
 all_goals ((try simp only [std, inj] at *); with_reducible and_intros)
 all_goals try with_reducible first | apply Z56 | apply Z66
 all_goals try first | exact z | exact zF | grind [Ynv, wS, Yhl, Yhm, Yhi])
abbrev Z6g (L : List YR) : Ct := ⟨68, [], [ll (L.map Yhp)], [.arr true 3 (L.map Yhp)], .sv (.one (.ref 0))⟩
def Z3i (L : List YR) : Lp Nat := .mk 23 0 (fun x => [(0, ll (L.map Yhp)), (3, .one (.ref 0)), (4, hs x 0)]) (fun x => [ho x 1]) (fun k => [.s (li (↑k :
 Int)), .o (.arr true 3 ((Yil L k).map Yhp))]) (fun k => k <= L.length /\ L.length <= 9223372036854775807) (fun k => L.length - k) [.mk True (.exit 0) (fun x => [(3,
 .one (.ref 0))]) (fun x => [ho x 0]) [.o (.arr true 3 (L.map Yhp))]]
theorem Zc8 (L : List YR) (h : L.length + Yhe wR L <= 1048576) : Lp.Sem Tryz.prog (Yht Tryz.f68 0) (Z3i L) := Yi3 (fun k => .z Yhp L (.i ((k : Int)
 < (↑(L.map Yhp).length : Int)) (.x (k : Int) (L.map Yhp) (Yiv (L.getD k default)) (.d [.rd] (Z77 (L.getD k default)) (.p (0 <= (k : Int) /\ (↑k :
 Int).toNat < ((Yil L k).map Yhp).length) (.w (.cells (Yiv ((Yil L k).getD (k : Int).toNat default))) (.p (((Yil L k).map Yhp)[(k : Int).toNat]? =
 some (Yiv ((Yil L k).getD (k : Int).toNat default))) (.r ((k : Int) + 1) (.g [0] (k + 1) [.s (li ((k : Int) + 1)), .o (.arr true 3 (((Yil L k).map Yhp).set
 (k : Int).toNat (Yiv (L.getD k default))))]))))))) (.o 0 [0] [.o (.arr true 3 ((Yil L k).map Yhp))]))) (by
 intro k h; try dsimp only [Yhj, Yhq, Z3i] at h ⊢
 with_reducible repeat' (first | apply And.intro | exact zR | (intro) | apply Z73)
 all_goals ((try simp only [std, inj] at *); with_reducible and_intros)
 all_goals try with_reducible first | apply Z73
 all_goals try first | exact z | exact zF | grind [Yq8, Yhn, Yi9, Yhl, Yhm, Yhi])
theorem Zai (L : List YR) (h : L.length + Yhe wR L <= 1048576)  : Z6g L := Yhv Tryz.call68 Tryz.func68 (.z Yhp L (.p (0 <= (↑(L.map Yhp).length : Int)
 /\ 72 * (↑(L.map Yhp).length : Int).toNat <= 281474976710656) (.l (Z3i L) (Zc8 L h) [0] [.s (li 0), .o (.arr true 3 (List.replicate (↑(List.map Yhp
 L).length : Int).toNat [.list [], .list [], .list []]))] 0 (.t (.f [0] [.arr true 3 (L.map Yhp)] (.sv (.one (.ref 0)))) .q)))) (by
 dsimp only [Yhj, Z6g, Yhq, Z3i]
 with_reducible repeat' (first | apply And.intro | exact zR | (intro) | apply Z73)
 all_goals ((try simp only [std, inj] at *); with_reducible and_intros)
 all_goals try with_reducible first | apply Z73
 all_goals try first | exact z | exact zF | grind [Yhl, Yhm, Yhi])
abbrev Z12 (x : YE) : Ct := ⟨15, [], [Ykb x], Yue x, .sv (Ypn x 0)⟩
theorem Z93 (x : YE) (h : wX x <= 1048576)  : Z12 x := Yhv Tryz.call15 Tryz.func15 (.d [.rd] (Z4h x.bindings) (.d [.rd] (Z6g x.macros)
 (.f [3, 4] [.arr true 4 (x.bindings.map Yhg), .arr true 3 (x.macros.map Yhp)] (.sv (.agg [.ref 0, .ref 1, vI x.scope, vI x.vari, vI x.steps]))))) (by
 dsimp only [Yhj, Z12]
 with_reducible repeat' (first | apply And.intro | exact zR | (intro) | apply Z92 | apply Zai)
 all_goals ((try simp only [std, inj] at *); with_reducible and_intros)
 all_goals try with_reducible first | apply Z92 | apply Zai
 all_goals try first | exact z | exact zF | grind [Ymg, wS, Yhl, Yhm, Yhi])
set_option maxHeartbeats 4000000
abbrev Zaj (A : List Int) (B : List Int) : Ct := ⟨78, [], [ll (A.map Yhh), ll (B.map Yhh)], [], .sv (lb (decide (A = B)))⟩
def Z58 (A : List Int) (B : List Int) : Lp Nat := .mk 26 0 (fun x => [(0, ll (A.map Yhh)), (1, ll (B.map Yhh)), (5, hs x 0)]) (fun x => []) (fun k => [.s (li
 (k : Int))]) (fun k => k <= A.length /\ A.length <= 9223372036854775807 /\ A.length = B.length /\ A.take k = B.take k) (fun k => A.length - k) [.mk (A = B) (.exit 0) (fun x
 => []) (fun x => []) [], .mk (A ≠ B) .ret (fun x => [(4, hs x 0)]) (fun x => []) [.s (lb false)]]
theorem Ze2 (A : List Int) (B : List Int) : Lp.Sem Tryz.prog (Yht Tryz.f78 0) (Z58 A B) := Yi3 (fun k => .z Yhh A (.i ((k : Int) < (↑(A.map Yhh).length
 : Int)) (.w (.draw []) (.x (k : Int) (A.map Yhh) [cI (A.getD k 0)] (.x (k : Int) (B.map Yhh) [cI (B.getD k 0)] (.i (A.getD k (0 : Int) ≠ B.getD k 0) (.o 1 [] [.s (lb
 false)]) (.r ((k : Int) + 1) (.g [] (k + 1) [.s (li ((k : Int) + 1))])))))) (.o 0 [] []))) (by
 intro k h; try dsimp only [Yhj, Yhq, Z58] at h ⊢
 with_reducible repeat' (first | apply And.intro | exact zR | (intro))
 all_goals ((try simp only [std, inj] at *); with_reducible and_intros)
 all_goals try first | exact z | grind [Yqd, Yhl, Yhm, Yhi])
theorem Z83 (A B : List Int)  : Zaj A B := Yhv Tryz.call78 Tryz.func78 (.z Yhh A (.z Yhh B (.i ((↑(A.map Yhh).length : Int) ≠ (↑(B.map Yhh).length : Int))
 (.s (lb false)) (.l (Z58 A B) (Ze2 A B) [] [.s (li 0)] 0 (.t (.s (lb true)) (.t (.s (lb false)) .q)))))) (by
 dsimp only [Yhj, Zaj, Yhq, Z58]
 exact zV)
abbrev Z17 (A : List YS) (B : List YS) : Ct := ⟨43, [], [ll (A.map Yhd), ll (B.map Yhd)], [], .sv (lb (decide (A = B)))⟩
abbrev Zm (x : YS) (y : YS) : Ct := ⟨20, [], [Yhz x, Yhz y], [], .sv (lb (decide (x = y)))⟩
def Z2t (A : List YS) (B : List YS) : Lp Nat := .mk 27 0 (fun x => [(0, ll (A.map Yhd)), (1, ll (B.map Yhd)), (5, hs x 0)]) (fun x => []) (fun
 k => [.s (li (k : Int))]) (fun k => k <= A.length /\ A.length <= 9223372036854775807 /\ A.length = B.length /\ A.take k = B.take k) (fun k => A.length - k) [.mk (A = B)
 (.exit 0) (fun x => []) (fun x => []) [], .mk (A ≠ B) .ret (fun x => [(4, hs x 0)]) (fun x => []) [.s (lb false)]]
theorem Zay (A : List YS) (B : List YS) (ih : ∀ (x : YS), x ∈ A -> ∀ (y : YS), OK (Zm x y)) : Lp.Sem Tryz.prog (Yht Tryz.f43 0)
 (Z2t A B) := Yi3 (fun k => .z Yhd A (.i ((k : Int) < (↑(A.map Yhd).length : Int)) (.w (.draw []) (.x (k : Int) (A.map Yhd) (Yhk (A.getD k
 default)) (.x (k : Int) (B.map Yhd) (Yhk (B.getD k default)) (.d [.rd, .rd] (Zm (A.getD k default) (B.getD k default)) (.b (!decide (A.getD k default =
 B.getD k default)) (.o 1 [] [.s (lb false)]) (.r ((k : Int) + 1) (.g [] (k + 1) [.s (li ((k : Int) + 1))]))))))) (.o 0 [] []))) (by
 intro k h; try dsimp only [Yhj, Yhq, Z2t] at h ⊢
 with_reducible repeat' (first | apply And.intro | exact zR | exact ih | (intro) | apply ih)
 all_goals ((try simp only [std, inj] at *); with_reducible and_intros)
 all_goals try with_reducible first | apply ih
 all_goals try first | exact z | grind [Yqd, Yhn, Yhl, Yhm, Yhi])
theorem Z59 (A B : List YS) (ih : ∀ x ∈ A, ∀ (y : YS), Zm x y)  : Z17 A B := Yhv Tryz.call43 Tryz.func43 (.z Yhd A (.z Yhd B (.i
 ((↑(A.map Yhd).length : Int) ≠ (↑(B.map Yhd).length : Int)) (.s (lb false)) (.l (Z2t A B) (Zay A B ih) [] [.s (li 0)] 0 (.t (.s (lb true))
 (.t (.s (lb false)) .q)))))) (by
 dsimp only [Yhj, Z17, Yhq, Z2t]
 with_reducible repeat' (first | apply And.intro | exact zR | exact ih | (intro))
 all_goals ((try simp only [std, inj] at *); with_reducible and_intros)
 all_goals try with_reducible first | apply ih
 all_goals (try exact zG))
theorem Zdg (x y : YS) (ih : ∀ z ∈ x.items, ∀ (y : YS), Zm z y)  : Zm x y := Yhv Tryz.call20 Tryz.func20 (.i (x.kind ≠ y.kind) (.s (lb false))
 (.i (x.number ≠ y.number) (.s (lb false)) (.i (x.text.data.toList ≠ y.text.data.toList) (.s (lb false)) (.c [.rd, .rd] (Z83 x.scopes y.scopes) (.b (!decide (x.scopes =
 y.scopes)) (.s (lb false)) (.d [.rd, .rd] (Z17 x.items y.items) (.b (!decide (x.items = y.items)) (.s (lb false)) (.s (lb true))))))))) (by
 dsimp only [Yhj, Zm]
 simp only [Y1ct]
 with_reducible repeat' (first | apply And.intro | exact zR | exact ih | (intro) | apply Z83 | apply Z59 | apply ih)
 all_goals ((try simp only [std, inj] at *); with_reducible and_intros)
 all_goals try with_reducible first | apply Z83 | apply Z59 | apply ih
 all_goals try first | exact z | grind [Ykk, Yhl, Yhm, Yhi])
theorem Z2u (x : YS) : ∀ (y : YS), Zm x y := YS.ind (P := fun x => ∀ (y : YS), Zm x y) (fun x ih y => Zdg x y ih) x
abbrev Z8a (x : YB) (y : YB) : Ct := ⟨113, [], [Ym7 x, Ym7 y], [], .sv (lb (decide (x = y)))⟩
theorem Ze3 (x y : YB)  : Z8a x y := Yhv Tryz.call113 Tryz.func113 (.i (x.text.data.toList ≠ y.text.data.toList) (.s (lb false)) (.c [.rd, .rd] (Z83
 x.scopes y.scopes) (.b (!decide (x.scopes = y.scopes)) (.s (lb false)) (.i (x.kind ≠ y.kind) (.s (lb false)) (.i (x.number ≠ y.number) (.s (lb false)) (.s (lb true))))))) (by
 dsimp only [Yhj, Z8a]
 simp only [Y19k]
 with_reducible repeat' (first | apply And.intro | exact zR | (intro))
 all_goals ((try simp only [std, inj] at *); with_reducible and_intros)
 all_goals try first | exact z | grind [Ykk, Yhl, Yhm, Yhi])
abbrev Z7g (A : List YB) (B : List YB) : Ct := ⟨42, [], [ll (A.map Yhg), ll (B.map Yhg)], [], .sv (lb (decide (A = B)))⟩
def Z27 (A : List YB) (B : List YB) : Lp Nat := .mk 27 0 (fun x => [(0, ll (A.map Yhg)), (1, ll (B.map Yhg)), (5, hs x 0)]) (fun x => [])
 (fun k => [.s (li (k : Int))]) (fun k => k <= A.length /\ A.length <= 9223372036854775807 /\ A.length = B.length /\ A.take k = B.take k) (fun k => A.length - k) [.mk (A = B)
 (.exit 0) (fun x => []) (fun x => []) [], .mk (A ≠ B) .ret (fun x => [(4, hs x 0)]) (fun x => []) [.s (lb false)]]
theorem Zak (A : List YB) (B : List YB) : Lp.Sem Tryz.prog (Yht Tryz.f42 0) (Z27 A B) := Yi3 (fun k => .z Yhg A (.i ((k : Int) <
 (↑(A.map Yhg).length : Int)) (.w (.draw []) (.x (k : Int) (A.map Yhg) (Yhy (A.getD k default)) (.x (k : Int) (B.map Yhg) (Yhy (B.getD k
 default)) (.c [.rd, .rd] (Ze3 (A.getD k default) (B.getD k default)) (.b (!decide (A.getD k default = B.getD k default)) (.o 1 [] [.s (lb false)]) (.r ((k : Int) + 1) (.g
 [] (k + 1) [.s (li ((k : Int) + 1))]))))))) (.o 0 [] []))) (by
 intro k h; try dsimp only [Yhj, Yhq, Z27] at h ⊢
 with_reducible repeat' (first | apply And.intro | exact zR | (intro))
 all_goals ((try simp only [std, inj] at *); with_reducible and_intros)
 all_goals try first | exact z | grind [Yqd, Yhn, Yhl, Yhm, Yhi])
theorem Zdh (A B : List YB)  : Z7g A B := Yhv Tryz.call42 Tryz.func42 (.z Yhg A (.z Yhg B (.i ((↑(A.map Yhg).length : Int) ≠ (↑(List.map
 Yhg B).length : Int)) (.s (lb false)) (.l (Z27 A B) (Zak A B) [] [.s (li 0)] 0 (.t (.s (lb true)) (.t (.s (lb false)) .q)))))) (by
 dsimp only [Yhj, Z7g, Yhq, Z27]
 exact zV)
abbrev Z9m (x : YR) (y : YR) : Ct := ⟨21, [], [Ymi x, Ymi y], [], .sv (lb (decide (x = y)))⟩
theorem Zgj (x y : YR)  : Z9m x y := Yhv Tryz.call21 Tryz.func21 (.d [.rd, .rd] (Z17 x.literals y.literals) (.b (!decide (x.literals = y.literals)) (.s
 (lb false)) (.d [.rd, .rd] (Z17 x.patterns y.patterns) (.b (!decide (x.patterns = y.patterns)) (.s (lb false)) (.d [.rd, .rd] (Z17 x.templates y.templates) (.b
 (!decide (x.templates = y.templates)) (.s (lb false)) (.s (lb true)))))))) (by
 dsimp only [Yhj, Z9m]
 simp only [Y1ei]
 with_reducible repeat' (first | apply And.intro | exact zR | (intro) | apply Z59 | apply Z2u)
 all_goals ((try simp only [std, inj] at *); with_reducible and_intros)
 all_goals try with_reducible first | apply Z59 | apply Z2u
 all_goals try first | exact z | grind [Ykk, Yhl, Yhm, Yhi])
abbrev Z94 (A : List YR) (B : List YR) : Ct := ⟨77, [], [ll (A.map Yhp), ll (B.map Yhp)], [], .sv (lb (decide (A = B)))⟩
def Z3j (A : List YR) (B : List YR) : Lp Nat := .mk 27 0 (fun x => [(0, ll (A.map Yhp)), (1, ll (B.map Yhp)), (5, hs x 0)]) (fun x => []) (fun k =>
 [.s (li (k : Int))]) (fun k => k <= A.length /\ A.length <= 9223372036854775807 /\ A.length = B.length /\ A.take k = B.take k) (fun k => A.length - k) [.mk (A = B) (.exit 0)
 (fun x => []) (fun x => []) [], .mk (A ≠ B) .ret (fun x => [(4, hs x 0)]) (fun x => []) [.s (lb false)]]
theorem Zc9 (A : List YR) (B : List YR) : Lp.Sem Tryz.prog (Yht Tryz.f77 0) (Z3j A B) := Yi3 (fun k => .z Yhp A (.i ((k : Int) < (↑(List.map
 Yhp A).length : Int)) (.w (.draw []) (.x (k : Int) (A.map Yhp) (Yiv (A.getD k default)) (.x (k : Int) (B.map Yhp) (Yiv (B.getD k default)) (.c [.rd,
 .rd] (Zgj (A.getD k default) (B.getD k default)) (.b (!decide (A.getD k default = B.getD k default)) (.o 1 [] [.s (lb false)]) (.r ((k : Int) + 1) (.g [] (k + 1) [.s (li
 ((k : Int) + 1))]))))))) (.o 0 [] []))) (by
 intro k h; try dsimp only [Yhj, Yhq, Z3j] at h ⊢
 with_reducible repeat' (first | apply And.intro | exact zR | (intro))
 all_goals ((try simp only [std, inj] at *); with_reducible and_intros)
 all_goals try first | exact z | grind [Yqd, Yhn, Yhl, Yhm, Yhi])
theorem Zff (A B : List YR)  : Z94 A B := Yhv Tryz.call77 Tryz.func77 (.z Yhp A (.z Yhp B (.i ((↑(A.map Yhp).length : Int) ≠ (↑(List.map Yhp
 B).length : Int)) (.s (lb false)) (.l (Z3j A B) (Zc9 A B) [] [.s (li 0)] 0 (.t (.s (lb true)) (.t (.s (lb false)) .q)))))) (by
 dsimp only [Yhj, Z94, Yhq, Z3j]
 exact zV)
abbrev Z7h (x : YE) (y : YE) : Ct := ⟨19, [], [Ykb x, Ykb y], [], .sv (lb (decide (x = y)))⟩
theorem Z47 (x y : YE)  : Z7h x y := Yhv Tryz.call19 Tryz.func19 (.c [.rd, .rd] (Zdh x.bindings y.bindings) (.b (!decide (x.bindings =
 y.bindings)) (.s (lb false)) (.c [.rd, .rd] (Zff x.macros y.macros) (.b (!decide (x.macros = y.macros)) (.s (lb false)) (.i (x.scope ≠ y.scope) (.s (lb false)) (.i (x.vari
 ≠ y.vari) (.s (lb false)) (.i (x.steps ≠ y.steps) (.s (lb false)) (.s (lb true))))))))) (by
 dsimp only [Yhj, Z7h]
 simp only [Y16i]
 with_reducible repeat' (first | apply And.intro | exact zR | (intro))
 all_goals ((try simp only [std, inj] at *); with_reducible and_intros)
 all_goals try first | exact z | grind [Ykk, Yhl, Yhm, Yhi])
set_option maxHeartbeats 4000000
abbrev Zdi (x : YE) (s : YS) : Ct := ⟨7, [], [Ykb x, Yhz s], [], .sv (lb true)⟩
theorem Zhc (x : YE) (s : YS)  : Zdi x s := Yhv Tryz.call7 Tryz.func7 (.d [.rd, .rd] (Z4g x 1048576) (.i (sz (wX x) (1048576 : Int) < 0) (.s (lb true))
 (.d [.rd, .rd] (Ze s (sz (wX x) 1048576)) (.i (sz (wY s) (sz (wX x) 1048576) < 0) (.s (lb true)) (.w (.draw [(11, [26]), (12, [27])]) (.d [.rd] (Z12 x) (.d
 [.rd] (Z7 s) (.d [.rd, .rd] (Z8t x s) (.d [.rd] (Z12 x) (.d [.rd] (Z7 s) (.d [.rd, .rd] (Z71 x s) (.c [.rd, .rd] (Z2u (xsY x s)
 (xsY x s)) (.b (!decide (xsY x s = xsY x s)) (.y true (.y true (.s (lb false)))) (.c [.rd, .rd] (Z47 (xsX x s) (xsX x s)) (.b (!decide (xsX x s = xsX x s)) (.y true (.s
 (lb false))) (.i (xsE x s ≠ xsE x s) (.s (lb false)) (.w (.draw []) (.d [.rd] (Z12 x) (.c [.rd, .rd] (Z47 x x) (.b (!decide (x = x)) (.s (lb false)) (.w (.draw
 []) (.d [.rd] (Z7 s) (.c [.rd, .rd] (Z2u s s) (.b (!decide (s = s)) (.s (lb false)) (.d [.agg [some (true, 4), some (true, 3), none, none, none], .rd]
 (Z1v x 1) (.d [.agg [none, none, none, some (true, 1), some (true, 5)], .rd] (Z2p s (1 + (↑(Yhe cB x.bindings) : Int) + (↑(Yhe cR x.macros) : Int)))
 (.y false (.c [.rd, .rd] (Z2u (xsY x s) (xsY x s)) (.b (!decide (xsY x s = xsY x s)) (.y true (.y true (.s (lb false)))) (.c [.rd, .rd] (Z47 (xsX x s) (xsX x s))
 (.b (!decide (xsX x s = xsX x s)) (.y true (.s (lb false))) (.i (xsE x s ≠ xsE x s) (.s (lb false)) (.d [.agg [none, none, none, some (true, 1), some (true, 5)], .rd]
 (Z2p (xsY x s) 1) (.d [.agg [some (true, 4), some (true, 3), none, none, none], .rd] (Z1v (xsX x s) (1 + (↑(xsY x s).scopes.length : Int) + (↑(Yhe cY
 (xsY x s).items) : Int))) (.d [.rd, .rd] (Z2q (YS.mk (xsY x s).kind (xsY x s).number (xsY x s).text (Yhu mkI Yix (xsY x s).scopes 1) (Yhu mkY cY (xsY x s).items
 (1 + (↑(xsY x s).scopes.length : Int)))) 1) (.y false (.d [.rd, .rd] (Z1w (YE.mk (Yhu mkB cB (xsX x s).bindings (1 + (↑(xsY x s).scopes.length : Int) +
 (↑(Yhe cY (xsY x s).items) : Int))) (Yhu mkR cR (xsX x s).macros (1 + (↑(xsY x s).scopes.length : Int) + (↑(Yhe cY (xsY x s).items) : Int) + (↑(Yhe cB (xsX x s).bindings) :
 Int))) (xsX x s).scope (xsX x s).vari (xsX x s).steps) (1 + (↑(Yhu mkI Yix (xsY x s).scopes 1).length : Int) + (↑(Yhe cY (Yhu mkY cY (xsY x s).items (1 + (↑(xsY x
 s).scopes.length : Int)))) : Int))) (.y false (.i (1 + (↑(Yhu mkI Yix (xsY x s).scopes 1).length : Int) + (↑(Yhe cY (Yhu mkY cY (xsY x s).items (1 + (↑(xsY x s).scopes.length
 : Int)))) : Int) + (↑(Yhe cB (Yhu mkB cB (xsX x s).bindings (1 + (↑(xsY x s).scopes.length : Int) + (↑(Yhe cY (xsY x s).items) : Int)))) : Int) + (↑(Yhe cR (Yhu mkR cR
 (xsX x s).macros (1 + (↑(xsY x s).scopes.length : Int) + (↑(Yhe cY (xsY x s).items) : Int) + (↑(Yhe cB (xsX x s).bindings) : Int)))) : Int) ≠ 1 + (↑(xsY x s).scopes.length :
 Int) + (↑(Yhe cY (xsY x s).items) : Int) + (↑(Yhe cB (xsX x s).bindings) : Int) + (↑(Yhe cR (xsX x s).macros) : Int)) (.s (lb false)) (.w (.draw [(11, [68]), (12, [69])])
 (.d [.rd] (Z12 x) (.d [.rd] (Z7 s) (.d [.rd, .rd] (Z71 x s) (.c [.rd, .rd] (Z2u (xsY x s) (xsY x s)) (.b (!decide (xsY x s = xsY x s)) (.y true
 (.y true (.s (lb false)))) (.c [.rd, .rd] (Z47 (xsX x s) (xsX x s)) (.b (!decide (xsX x s = xsX x s)) (.y true (.s (lb false))) (.i (xsE x s ≠ xsE x s) (.s (lb false))
 (.d [.rd, .rd] (Z2q (YS.mk (xsY x s).kind (xsY x s).number (xsY x s).text (Yhu mkI Yix (xsY x s).scopes 1) (Yhu mkY cY (xsY x s).items (1 + (↑(xsY x
 s).scopes.length : Int)))) 1) (.y false (.d [.rd, .rd] (Z1w (YE.mk (Yhu mkB cB (xsX x s).bindings (1 + (↑(xsY x s).scopes.length : Int) + (↑(Yhe cY (xsY x
 s).items) : Int))) (Yhu mkR cR (xsX x s).macros (1 + (↑(xsY x s).scopes.length : Int) + (↑(Yhe cY (xsY x s).items) : Int) + (↑(Yhe cB (xsX x s).bindings) : Int))) (xsX x
 s).scope (xsX x s).vari (xsX x s).steps) (1 + (↑(Yhu mkI Yix (xsY x s).scopes 1).length : Int) + (↑(Yhe cY (Yhu mkY cY (xsY x s).items (1 + (↑(xsY x s).scopes.length :
 Int)))) : Int))) (.y false (.i (1 + (↑(Yhu mkI Yix (xsY x s).scopes 1).length : Int) + (↑(Yhe cY (Yhu mkY cY (xsY x s).items (1 + (↑(xsY x s).scopes.length : Int)))) : Int) +
 (↑(Yhe cB (Yhu mkB cB (xsX x s).bindings (1 + (↑(xsY x s).scopes.length : Int) + (↑(Yhe cY (xsY x s).items) : Int)))) : Int) + (↑(Yhe cR (Yhu mkR cR (xsX x s).macros (1 +
 (↑(xsY x s).scopes.length : Int) + (↑(Yhe cY (xsY x s).items) : Int) + (↑(Yhe cB (xsX x s).bindings) : Int)))) : Int) ≠ 1 + (↑(xsY x s).scopes.length : Int) + (↑(Yhe cY (xsY
 x s).items) : Int) + (↑(Yhe cB (xsX x s).bindings) : Int) + (↑(Yhe cR (xsX x s).macros) : Int)) (.s (lb false)) (.s (lb
 true))))))))))))))))))))))))))))))))))))))))))))))))))))))) (by
 dsimp only [Yhj, Zdi]
 have h0 := Ymg x
 have h1 := Ym1 x.bindings fun y _ => Y1ks y
 have h2 := Ym1 x.macros fun y _ => Y1ly y
 have h3 := Y1lf x s
 have h4 := Y1ke x s
 have h5 := Yy3 s
 have h6 := Ypi s
 have h7 := Yy3 (xsY x s)
 have h8 := Ypi (xsY x s)
 with_reducible repeat' (first | apply And.intro | exact zR | (intro) | apply Z91 | apply Z64 | apply Z93 | apply Z66 | apply Zem | apply Zen | apply Z7d | apply Z8v | apply Z7f | apply Z8y)
 all_goals (try simp only [std, Yi5, inj] at *)
 all_goals with_reducible and_intros
 all_goals try with_reducible first | apply Z91 | apply Z64 | apply Z93 | apply Z66 | apply Zem | apply Zen | apply Z7d | apply Z8v | apply Z7f | apply Z8y
 all_goals try first | exact z | ((first | refine Yjw ?_ | refine Ykm ?_ rfl); (first | omega | (simp only [std, Yi5]; omega) | grind)) | (refine Yjr ?_; (simp only [List.length_map, List.length_set, Yj2]; omega)) | (refine Yjs ?_; (first | omega | (simp only [std, Yi5]; omega) | grind)) | (refine Yj9 ?_ rfl; (first | omega | (simp only [std, Yi5]; omega) | grind)) | (refine Yiz ?_ ?_; (first | omega | (simp only [std, Yi5]; omega) | grind); (first | grind [sz, Yka, Yih, Yj5, Yhl, Yhm, Yhi])) | grind [sz, Yka, Yih, Yj5, Yhl, Yhm, Yhi])
end Go.Proofs.YtpnaoendfpaodaaGreat
end
section
namespace Go.Proofs.YtpnaoendfpaodaaGreat.fnExactExpandStep
open Go Go.ChangeShapes Go.WideShapes Go.ChangeAt Go.RowKit Go.Proofs.YtpnaoendfpaodaaGreat.Ab
theorem own : ownKnob Tryz.prog.godebug = none := by kernel_rfl
theorem Y1m7 : laidOutB Tryz.prog = true := by kernel_rfl
theorem Y1lu : mapsRowed Tryz.prog = true := by kernel_rfl
theorem Y1ls : ((List.range Tryz.prog.types.size).all fun t => match Tryz.prog.underlying t with | some (.slice e) => decide (0 < Tryz.prog.cellsOf e) | _ => true) = true := by kernel_rfl
set_option maxRecDepth 100000 in
theorem Y1ik (os : Os) (started : os.Started) (H : Type) (enc : TypeId × Value -> H) :
  ReturnsInHanded {} Tryz.checked os 7 .any (Rows.fnExactExpandStepSpec.pre6 enc Tryz.prog Tryz.f7 Rows.fnExactExpandStepRow.domain false) (Rows.fnExactExpandStepSpec.post enc Tryz.prog Tryz.f7 false true false false) := by
 refine returnsInHanded_of_change (C := Tryz.checked) own started (by kernel_rfl) Tryz.func7
  (ChangeSpec.witness6 (enc := enc) (C := Tryz.checked) false ⟨#[], #[.agg #[.slice none 0 0, .slice none 0 0, .int .i64 0, .int .i64 0, .int .i64 0], .agg #[.int .i64 0, .int .i64 0, .string ⟨#[]⟩, .slice none 0 0, .slice none 0 0]], []⟩ 12 (by kernel_rfl) (by kernel_rfl) (by kernel_rfl) (by kernel_rfl)) ?_
 intro W base args ds gs before hval0 hW hcnd _
 have hval : ∀ (j : Nat) t v, Tryz.f7.params[j]? = some t -> args[j]? = some v -> Value.okWide Tryz.prog W .any base t v := hval0
 have hW' := hW
 obtain ⟨p, q, hA0, hV, rfl, hfz, hnd⟩ := hW
 obtain ⟨rfl, rfl⟩ := trodVars_none hV
 have hA : DataW.TrodAll enc Tryz.prog W 0 (fun _ => true) true Tryz.f7.params.toList args.toList ds p := hA0
 rw [Tryz.params7] at hA hval
 have hA2 := hA
 clear hA0 hval0
 obtain ⟨v0, vs0, d0, ds0, p0, q0, hargs0, rfl, rfl, h0, r0⟩ := trodAll_cons hA
 obtain ⟨v1, vs1, d1, ds1, p1, q1, hargs1, rfl, rfl, h1, r1⟩ := trodAll_cons r0
 obtain ⟨rfl, rfl, rfl⟩ := trodAll_nil r1
 obtain rfl : args = #[v0, v1] := by cases args; simp_all
 obtain ⟨a0, c0⟩ := (let ⟨fuel, hf⟩ := h0; Y16r fuel _ _ hf)
 have s0 : Yiu W (Y10i W) (Yjg []) (Ykb a0) v0 := Y188 (let ⟨cs, h, _⟩ := okWide_struct Tryz.underlying25 (hval 0 25 v0 rfl rfl); ⟨cs, h⟩) c0
 obtain ⟨a1, c1⟩ := (let ⟨fuel, hf⟩ := h1; Yrl fuel _ _ hf)
 have s1 : Yiu W (Y10i W) (Yjg []) (Yhz a1) v1 := Y188 (let ⟨cs, h, _⟩ := okWide_struct Tryz.underlying29 (hval 1 29 v1 rfl rfl); ⟨cs, h⟩) c1
 refine (Yl3.kept (w := W) (vals := #[v0, v1]) (Zhc a0 a1) ⟨s0, s1, trivial⟩).mono fun e W' ⟨he, hg, _⟩ => ?_
 subst he
 exact ⟨_, rfl, Y131 (pv := []) hW' (fun _ _ _ => (trodAll_cons_mk (shut_bool Tryz.underlying4 _) trodAll_mk0))
  (fun sp hsp => Yu8 Y1m7 Y1lu Y1ls hg (by decide +kernel) hA2 fun y hy => hsp y (by simpa using hy)) (fun _ _ => rfl) rfl
  hg (ok_one (by kernel_rfl) rfl (okWide_bool_mk Tryz.underlying4 _))⟩
set_option maxRecDepth 100000 in
set_option maxHeartbeats 0 in
theorem Y1l2 : joinedFacts Tryz.pinned.checked.prog 7 Tryz.f7 Rows.fnExactExpandStepSpec Rows.fnExactExpandStepRow = true := by
 delta joinedFacts
 with_reducible repeat' apply Y1le
 all_goals (first | with_reducible exact Y1j7 | (rw [Y1l1]; kernel_rfl) | (rw [Y1kz]; kernel_rfl) | decide +kernel)
theorem Y1m3 : Rows.fnExactExpandStepRow.holds Tryz.pinned (OpenSpec.ofChange Rows.fnExactExpandStepSpec) :=
 OpenClaim.holds_of_wide 7 Tryz.f7 rfl rfl rfl rfl rfl rfl rfl ⟨rfl, rfl, rfl, rfl, rfl⟩ rfl rfl rfl rfl rfl (by kernel_rfl) Tryz.func7 Y1l2
  (of_decide_eq_true (by kernel_rfl)) (by unfold Func.isWrapper; first | (rw [if_pos (by decide +kernel)]; kernel_rfl) | (rw [if_neg (by decide +kernel)]; exact ⟨rfl, rfl⟩))
  (fun os started H enc _ => Y1ik os started H enc)
theorem proved : Rows.FnExactExpandStepSaid :=
 Y1m3
end Go.Proofs.YtpnaoendfpaodaaGreat.fnExactExpandStep
end
