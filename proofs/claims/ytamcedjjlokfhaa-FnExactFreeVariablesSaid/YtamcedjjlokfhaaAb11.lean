/- The abstract machine, part 11: the built-in append, from whatever source, onto a row of the function's own. No condition. -/
import Derived.Test.YtamcedjjlokfhaaAb10
namespace Go.Proofs.Ytamcedjjlokfhaa.Ab
open Go
set_option linter.unusedVariables false
section
variable {P : Program} (w : World)

theorem size_zeroCells' (z : Array Value) (n : Nat) : (Builtin.zeroCells z n).size = n * z.size := by simp [Builtin.zeroCells]

theorem run_append_gen (t u ty e e0 : TypeId) (d : TypeDesc) (i : TypeInfo) (z : Value) (size bytes : Nat) (ht : P.underlying t = some (.slice e)) (hu : P.underlying u = some d) (hd : ∀ k, d ≠ .int k)
    (hi : P.info? e = some i) (hz : i.zero = some z) (hsize : i.size = size) (hby : i.bytes = bytes) (hzs : z.cells.size = size) (hsz : 0 < size)
    (v : Value) (n : Nat) (xs : List Value) (hown : w.ownsRow 0 e0 size v n xs) (hv0 : n = 0 → ∃ a, v = .slice a 0 0)
    (x : Value) (m : Nat) (news : List Value) (hlen : ∀ w1 : World, (Builtin.lenOf x).run P w1 = .ok m w1) (hfirst : ∀ w1 : World, w1.heap = w.heap → (Builtin.firstCells size m x).run P w1 = .ok news.toArray w1)
    (hl : news.length = m * size) (h1 : ∀ u ∈ news, u.oneCell' = true) (h63 : n + m ≤ maxLen) (hbytes : (n + m) * bytes ≤ 140737488355328) :
    ∃ v' w' e', (Builtin.append_ #[t, u] ty #[v, x]).run P w = .ok v' w' ∧ w'.ownsRow 0 e' size v' (n + m) (xs ++ news) ∧ w.grownBy w' v.ownBlock ∧
      (∀ b, v'.ownBlock = some b → v.ownBlock = some b ∨ (w.heap.size ≤ b ∧ b < w'.heap.size)) ∧ (n + m = 0 → ∃ a, v' = .slice a 0 0) := by
  subst hsize
  subst hby
  have hsmall : n + m ≤ 9223372036854775807 := by simp only [maxLen] at h63; omega
  have hlen2 : (xs ++ news).length = (n + m) * i.size := by rw [List.length_append, hown.1, hl, Nat.add_mul]
  have grown : ∀ (old : Nat), old < n + m → ∀ (row : Option Nat),
      (w.drew.alloc (.cells (xs.toArray ++ news.toArray ++ Builtin.zeroCells z.cells (grownCap w (n + m) old e - (n + m))) e)).ownsRow 0 e i.size
        (.slice (some ⟨w.heap.size, 0, none⟩) (n + m) (grownCap w (n + m) old e)) (n + m) (xs ++ news) ∧
      w.grownBy (w.drew.alloc (.cells (xs.toArray ++ news.toArray ++ Builtin.zeroCells z.cells (grownCap w (n + m) old e - (n + m))) e)) row := by
    intro old ho row
    have hge := grownCap_ge w (n + m) old e
    have hcm : grownCap w (n + m) old e ≤ maxLen := grownCap_le_maxLen w (n + m) old e h63
    refine ⟨⟨hlen2, .inr ⟨w.heap.size, _, _, rfl, Nat.zero_le _, heap_alloc_new w.drew _, hge, hcm, ?_, ?_⟩⟩, ⟨rfl, rfl, rfl, by simp, fun k hk _ => heap_alloc_lt w.drew _ k hk⟩⟩
    · simp only [Array.size_append, List.size_toArray, size_zeroCells', hzs, hown.1, hl, ← Nat.add_mul]
      congr 1
      omega
    · simp only [Array.toList_append, List.append_assoc]
      rw [← List.append_assoc, ← hlen2]
      exact List.take_left
  have newb : ∀ old b, (Value.slice (some ⟨w.heap.size, 0, none⟩) (n + m) (grownCap w (n + m) old e)).ownBlock = some b →
      v.ownBlock = some b ∨ (w.heap.size ≤ b ∧ b < (w.drew.alloc (.cells (xs.toArray ++ news.toArray ++ Builtin.zeroCells z.cells (grownCap w (n + m) old e - (n + m))) e)).heap.size) := by
    intro old b hb
    simp only [Value.ownBlock, Option.some.injEq] at hb
    subst hb
    exact .inr ⟨Nat.le_refl _, by simp⟩
  rcases hown.2 with ⟨rfl, rfl⟩ | ⟨g, cap, cur, rfl, hbg, hg, hnc, hcm, hcs, htake⟩
  · have hx : xs = [] := List.eq_nil_of_length_eq_zero (by simpa using hown.1)
    subst hx
    by_cases hm : m = 0
    · subst hm
      have hn : news = [] := List.eq_nil_of_length_eq_zero (by simpa using hl)
      subst hn
      refine ⟨.slice none 0 0, w, 0, ?_, World.ownsRow_nil w 0 0 i.size, ⟨rfl, rfl, rfl, Nat.le_refl _, fun _ _ _ => rfl⟩, by simp [Value.ownBlock], fun _ => ⟨none, rfl⟩⟩
      have hf := hfirst w rfl
      simp [Builtin.append_, run_underlying ht, run_underlying hu, Go.sizeOf, typeInfo, hi, hlen, hf]
    · have hgr := grown 0 (by omega) (Value.ownBlock (.slice none 0 0))
      have hnb := newb 0
      have h63' : ¬ (9223372036854775807 < (m : Int)) := by omega
      have h48' : ¬ (281474976710656 < Builtin.nextslicecap m 0 * i.bytes) := by
        rw [nextslicecap_zero (by omega)]; simp only [Nat.zero_add] at hbytes; omega
      have hf := hfirst w.drew rfl
      simp only [Nat.zero_add, List.nil_append, Array.empty_append] at hgr hnb ⊢
      refine ⟨_, _, e, ?_, hgr.1, hgr.2, hnb, fun h => absurd h (by omega)⟩
      simp [Builtin.append_, run_underlying ht, run_underlying hu, Go.sizeOf, typeInfo, zeroValue, hi, hz, hlen, hm, h63', h48', Question.forced, run_firstCells_none, hf, newRow, grownCap]
  · by_cases hroom : n + m ≤ cap
    · have hfit : n * i.size + news.length ≤ cur.size := by rw [hl, hcs, ← Nat.add_mul]; exact Nat.mul_le_mul_right _ hroom
      have hst := run_storeCells_at P g (n * i.size) e0 news 0 cur w hg (by simpa using hfit) h1
      simp only [Nat.add_zero] at hst
      refine ⟨.slice (some ⟨g, 0, none⟩) (n + m) cap, w.setRow g (cur.toList.take (n * i.size) ++ news ++ cur.toList.drop (n * i.size + news.length)).toArray, e0, ?_, ⟨hlen2, .inr ⟨g, cap, _, rfl, hbg, setRow_heap w g cur _ e0 _ hg, hroom, hcm, ?_, ?_⟩⟩,
        ⟨rfl, rfl, rfl, by simp, fun k _ hk => setRow_other w g k _ (fun e => hk (by simp [Value.ownBlock, e]))⟩, fun b hb => .inl hb, fun h => ?_⟩
      · have hf := hfirst w rfl
        simp [Builtin.append_, run_underlying ht, run_underlying hu, Go.sizeOf, typeInfo, hi, hlen, hroom, hf, addr_add, hst]
      · simp only [List.size_toArray, List.length_append, List.length_take, List.length_drop, Array.length_toList]
        omega
      · rw [htake, ← hlen2]
        exact List.take_left
      · obtain ⟨a, ha⟩ := hv0 (by omega)
        simp only [Value.slice.injEq] at ha
        exact ⟨some ⟨g, 0, none⟩, by rw [h, ha.2.2]⟩
    · have holds : ∀ j u, xs[j]? = some u → w.cell? ((⟨g, 0, none⟩ : Addr).add j) = some u := hown.cells (g := g) rfl
      have hgr := grown cap (by omega) (Value.ownBlock (.slice (some ⟨g, 0, none⟩) n cap))
      have hn : ¬ (n + m ≤ cap) := by omega
      have h63' : ¬ (9223372036854775807 < ((n : Int) + (m : Int))) := by omega
      have hfits := growslice_fits (need := n + m) (old := cap) (by omega) hbytes
      have h48' : ¬ (281474976710656 < Builtin.nextslicecap (n + m) cap * i.bytes) := by omega
      have hf := hfirst w.drew rfl
      have hfo := run_firstCells_some (P := P) w.drew i.size n ⟨g, 0, none⟩ n cap xs hown.1 (by simpa using holds)
      refine ⟨_, _, e, ?_, hgr.1, hgr.2, newb cap, fun h => absurd h (by omega)⟩
      simp [Builtin.append_, run_underlying ht, run_underlying hu, Go.sizeOf, typeInfo, zeroValue, hi, hz, hlen, hn, h63', h48', Question.forced, hf, hfo, newRow, grownCap]
      congr 2
      apply Array.ext'
      simp [List.append_assoc]
end

section
variable {P : Program} {E : Ent} {s : St} {ι : Interp} {a : Act} {w : World}

def Flat (es : List (List Cell)) : Prop := ∀ e ∈ es, ∀ c ∈ e, ∃ v, c = .lit v

def tbytes (P : Program) (T : TypeId) : Option Nat := (P.info? T).map (·.bytes)
/-- the elements' type is fit: a zero value of its size -/
def fitElem (P : Program) (e sz : Nat) : Bool :=
  match P.info? e with
  | some i => match i.zero with
    | some z => i.size == sz && z.cells.size == sz && decide (0 < sz) && decide (0 < i.bytes)
    | none => false
  | none => false
def srcType (P : Program) (T : TypeId) : Bool := match P.underlying T with | some (.slice _) => true | some .string => true | _ => false

def srcElems (s : St) (own : Bool) (sz : Nat) : AC → Option (List (List Cell) × List Nat × List Item)
  | .val (.lit (.slice none 0 0)) => some ([], [], [])
  | .val (.lit (.string t)) => if own = true ∧ sz = 1 then some (t.data.toList.map fun b => [.lit (.int .u8 b.toNat)], [], []) else none
  | .val (.list es) => match own with
    | true => some (es, [], [.obl (Flat es), .obl (∀ e ∈ es, e.length = sz)])
    | false => some (es, [], [.obl (∀ e ∈ es, e.length = sz)])
  | .bor id (.list es) => if liveB s (some id) = true ∧ own = true then some (es, [], [.obl (Flat es), .obl (∀ e ∈ es, e.length = sz)]) else none
  | .ref k => match s.obj k with
    | .arr own' sz' es => if sz' = sz then (match own with
        | true => match own' with
          | true => some (es, [k], [])
          | false => some (es, [], [.obl (Flat es)])
        | false => match own' with
          | true => none
          | false => some (es, [], [])) else none
    | _ => none
  | _ => none

/-- what append takes from its source -/
def SrcRel (P : Program) (w : World) (G : Nat → Prop) (own : Bool) (fps : Nat → Prop) (x : Value) (sz : Nat) (es : List (List Cell)) : Prop :=
  ∃ news : List Value, (∀ w1 : World, (Builtin.lenOf x).run P w1 = .ok es.length w1) ∧ (∀ w1 : World, w1.heap = w.heap → (Builtin.firstCells sz es.length x).run P w1 = .ok news.toArray w1) ∧
    news.length = es.length * sz ∧ (∀ e ∈ es, e.length = sz) ∧
    ∃ Fs : Nat → Nat → Prop, (∀ k b, Fs k b → fps b) ∧ (∀ k k' b, k ≠ k' → Fs k b → ¬ Fs k' b) ∧ ∀ (k : Nat) (u : Value) (c : Cell), news[k]? = some u → es.flatten[k]? = some c → Nest w G own (Fs k) u c

theorem cell_heap {w w1 : World} (h : w1.heap = w.heap) (ad : Addr) : w1.cell? ad = w.cell? ad := by simp [World.cell?, h]

theorem srcRel_of_rd {G R : Nat → Prop} {v : Value} {es : List (List Cell)} (h : Rd w R v (.list es)) {sz : Nat} (hsz : ∀ e ∈ es, e.length = sz) {own : Bool}
    (hN : ∀ u c, Rd w R u c → c ∈ es.flatten → Nest w G own (fun _ => False) u c) : SrcRel P w G own (fun _ => False) v sz es := by
  cases h with
  | nil =>
    rename_i ad cap
    refine ⟨[], by simp [Builtin.lenOf], fun w1 _ => ?_, by simp, by simp, fun _ _ => False, by simp, by simp, by simp⟩
    cases ad with
    | none => simp [Builtin.firstCells]
    | some ad => exact run_firstCells_some (P := P) w1 sz 0 ad 0 cap [] (by simp) (by simp)
  | slice hG hc hm hsz' hl hx hr =>
    rename_i b off cap sz' xs
    refine ⟨xs, by simp [Builtin.lenOf], fun w1 hw1 => ?_, by rw [hl, flatten_length hsz], hsz, fun _ _ => False, by simp, by simp, fun k u c hu hc' => hN u c (hr k u c hu hc') (List.mem_of_getElem? hc')⟩
    refine run_firstCells_some (P := P) w1 sz es.length ⟨b, off, none⟩ es.length cap xs (by rw [hl, flatten_length hsz]) fun j u hu => ?_
    rw [addr_add, cell_heap hw1]
    exact hx j u hu

theorem flat_own {es : List (List Cell)} (hf : Flat es) {R : Nat → Prop} {u : Value} {c : Cell} (h : Rd w R u c) (hc : c ∈ es.flatten) : OwnC w (fun _ => False) u c := by
  obtain ⟨e, he, hce⟩ := List.mem_flatten.1 hc
  obtain ⟨v, rfl⟩ := hf e he c hce
  obtain ⟨rfl, hk⟩ := h.lit_inv
  exact .lit hk

theorem firstCells_row {e0 : TypeId} {sz n : Nat} {v : Value} {xs : List Value} (h : w.ownsRow 0 e0 sz v n xs) :
    (∀ w1 : World, (Builtin.lenOf v).run P w1 = .ok n w1) ∧ ∀ w1 : World, w1.heap = w.heap → (Builtin.firstCells sz n v).run P w1 = .ok xs.toArray w1 := by
  have hc := fun g hg => World.ownsRow.cells (g := g) h hg
  rcases h.2 with ⟨rfl, rfl⟩ | ⟨g, cap, cur, rfl, _⟩
  · have hx : xs = [] := List.eq_nil_of_length_eq_zero (by simpa using h.1)
    subst hx
    exact ⟨by simp [Builtin.lenOf], fun w1 _ => by simp [Builtin.firstCells]⟩
  · refine ⟨by simp [Builtin.lenOf], fun w1 hw1 => ?_⟩
    refine run_firstCells_some (P := P) w1 sz n ⟨g, 0, none⟩ n cap xs h.1 fun j u hu => ?_
    rw [cell_heap hw1]
    exact hc g rfl j u hu

theorem srcElems_sound (h : Rel E s ι a w) {own : Bool} {sz : Nat} {c : AC} {v : Value} (hv : ACRel w ι s.obj c v) {es : List (List Cell)} {ids : List Nat} {it : List Item} {K : Prop}
    (e : srcElems s own sz c = some (es, ids, it)) (vc : VC it K) : SrcRel P w ι.G own (fun b => ∃ j ∈ ids, ι.fp j b) v sz es ∧ (∀ j ∈ ids, isArr (s.obj j)) ∧ K := by
  have wide : ∀ {F F' : Nat → Prop} {v : Value} {es : List (List Cell)}, (∀ b, F b → F' b) → SrcRel P w ι.G own F v sz es → SrcRel P w ι.G own F' v sz es := by
    intro F F' v es hF ⟨news, h1, h2, h3, h4, Fs, h5, h6, h7⟩
    exact ⟨news, h1, h2, h3, h4, Fs, fun k b hb => hF b (h5 k b hb), h6, h7⟩
  unfold srcElems at e
  split at e
  · simp only [Option.some.injEq, Prod.mk.injEq] at e
    obtain ⟨rfl, rfl, rfl⟩ := e
    obtain ⟨rfl, _⟩ := Rd.lit_inv (show Rd w ι.G v _ from hv)
    exact ⟨⟨[], by simp [Builtin.lenOf], fun w1 _ => by simp [Builtin.firstCells], by simp, by simp, fun _ _ => False, by simp, by simp, by simp⟩, by simp, vc⟩
  · rename_i t
    split at e
    · rename_i hc
      obtain ⟨rfl, rfl⟩ := hc
      simp only [Option.some.injEq, Prod.mk.injEq] at e
      obtain ⟨rfl, rfl, rfl⟩ := e
      obtain ⟨rfl, _⟩ := Rd.lit_inv (show Rd w ι.G v _ from hv)
      have hl : t.size = t.data.toList.length := by rw [Array.length_toList]; rfl
      refine ⟨⟨t.data.toList.map fun b => .int .u8 b.toNat, fun w1 => by simp [Builtin.lenOf], fun w1 _ => ?_, by simp, by simp, fun _ _ => False, by simp, by simp, ?_⟩, by simp, vc⟩
      · simp only [Builtin.firstCells, Sem.run_pure, List.length_map, ← hl]
        congr 1
        apply Array.ext'
        simp
      · intro k u c hu hc
        have hfl : (t.data.toList.map fun b => [Cell.lit (.int .u8 b.toNat)]).flatten = t.data.toList.map fun b => Cell.lit (.int .u8 b.toNat) := by
          induction t.data.toList with
          | nil => rfl
          | cons x l ih => simp only [List.map_cons, List.flatten_cons, ih]; rfl
        rw [hfl] at hc
        simp only [List.getElem?_map] at hu hc
        cases hk : t.data.toList[k]? with
        | none => simp [hk] at hu
        | some b =>
          simp [hk] at hu hc
          subst hu; subst hc
          exact OwnC.lit (show litOK (.int .u8 _) from trivial)
    · cases e
  · rename_i es0
    split at e
    · simp only [Option.some.injEq, Prod.mk.injEq] at e
      obtain ⟨rfl, rfl, rfl⟩ := e
      exact ⟨wide (fun b hb => hb.elim) (srcRel_of_rd (show Rd w ι.G v _ from hv) vc.2.1 fun u c hu hc => flat_own vc.1 hu hc), by simp, vc.2.2⟩
    · simp only [Option.some.injEq, Prod.mk.injEq] at e
      obtain ⟨rfl, rfl, rfl⟩ := e
      exact ⟨wide (fun b hb => hb.elim) (srcRel_of_rd (show Rd w ι.G v _ from hv) vc.1 fun u c hu hc => hu), by simp, vc.2⟩
  · rename_i id es0
    split at e
    · rename_i hl
      obtain ⟨hl, rfl⟩ := hl
      simp only [Option.some.injEq, Prod.mk.injEq] at e
      obtain ⟨rfl, rfl, rfl⟩ := e
      exact ⟨wide (fun b hb => hb.elim) (srcRel_of_rd (hv.2 (liveB_ok hl)) vc.2.1 fun u c hu hc => flat_own vc.1 hu hc), by simp, vc.2.2⟩
    · cases e
  · rename_i k
    split at e
    · rename_i own' sz' es0 hob
      split at e
      · rename_i hsz
        subst hsz
        have hor := h.objs k
        rw [hob] at hor
        have hv' := hv.2 _ _ _ hob
        have hor0 := hor
        obtain ⟨e0, xs, Fs, h1, h2, h3, h4, h5, h6, h7, _⟩ := hor
        rw [← hv'] at h1
        obtain ⟨f1, f2⟩ := firstCells_row (P := P) h1
        cases own <;> cases own' <;> simp only [Option.some.injEq, Prod.mk.injEq, reduceCtorEq] at e <;> obtain ⟨rfl, rfl, rfl⟩ := e
        · exact ⟨⟨xs, f1, f2, h1.1, h2, fun _ _ => False, by simp, by simp, h7⟩, by simp, vc⟩
        · refine ⟨⟨xs, f1, f2, h1.1, h2, fun _ _ => False, by simp, by simp, fun j u c hu hc => ?_⟩, by simp, vc.2⟩
          exact flat_own vc.1 (h7 j u c hu hc) (List.mem_of_getElem? hc)
        · exact ⟨⟨xs, f1, f2, h1.1, h2, Fs, fun j b hb => ⟨k, by simp, h4 j b hb⟩, h6, h7⟩, fun j hj => by simp at hj; subst hj; exact ⟨_, _, _, hob⟩, vc⟩
      · cases e
    · cases e
  · cases e

end
end Go.Proofs.Ytamcedjjlokfhaa.Ab
