/- How the laws' arguments read: from data that can be read to the cells of the abstract machine; what is kept reads again. No condition. -/
import Derived.Test.YtamcedjjlokfhaaData
import Derived.WalkKit
import Derived.ProofKit
import Derived.OpenShut
import Derived.ChangeStays
import Derived.ChangeOld
import Derived.Deep.Slices
namespace Go.Proofs.Ytamcedjjlokfhaa
open Go Go.Proofs.Ytamcedjjlokfhaa.Ab Go.ChangeShapes
set_option linter.unusedVariables false

section
variable {H : Type} {enc : TypeId × Value → H} {P : Program} {w : Go.World} {sp : Nat → Bool} {hd : Bool} {fuel : Nat} {cs : List Value} {x : DataW H × List MemPlace}

abbrev Old (w : Go.World) (b : Nat) : Prop := b < w.heap.size

theorem rd_int {t : TypeId} {k : IntKind} (ht : P.underlying t = some (.int k)) (h : DataW.trod enc P w 0 sp hd fuel t cs = some x) : ∃ n : Int, All2 (Rd w (Old w)) cs [.lit (.int k n)] := by
  obtain ⟨n, rfl, _⟩ := DataW.trod_int ht h
  exact ⟨n, .lit trivial, trivial⟩

theorem rd_bool {t : TypeId} (ht : P.underlying t = some .bool) (h : DataW.trod enc P w 0 sp hd fuel t cs = some x) : ∃ b : Bool, All2 (Rd w (Old w)) cs [.lit (.bool b)] := by
  obtain ⟨b, rfl, _⟩ := DataW.trod_bool ht h
  exact ⟨b, .lit trivial, trivial⟩

theorem rd_string {t : TypeId} (ht : P.underlying t = some .string) (h : DataW.trod enc P w 0 sp hd fuel t cs = some x) : ∃ s : ByteArray, All2 (Rd w (Old w)) cs [.lit (.string s)] := by
  obtain ⟨s, rfl, _, hs⟩ := DataW.trod_string ht h
  exact ⟨s, .lit hs, trivial⟩

theorem rd_slice {α : Type} [Inhabited α] {C : α → List Cell} {t e : TypeId} (ht : P.underlying t = some (.slice e)) (hpos : 0 < P.cellsOf e)
    (hC : ∀ a, (C a).length = P.cellsOf e)
    (hel : ∀ n, n < fuel → ∀ (cs : List Value) (x : DataW H × List MemPlace), DataW.trod enc P w 0 sp hd n e cs = some x → ∃ a, All2 (Rd w (Old w)) cs (C a))
    (h : DataW.trod enc P w 0 sp hd fuel t cs = some x) : ∃ L : List α, All2 (Rd w (Old w)) cs [.list (L.map C)] := by
  rcases DataW.trod_slice ht h with ⟨rfl, _⟩ | ⟨a, len, cap, elems, rest, n, hn, rfl, _, _, hl, hm, hlen, hel2, _, _⟩
  · exact ⟨[], Rd.nil, trivial⟩
  have hone : ∀ i, i < len → ∃ p : List Value × α, w.cells? 0 (a.add (i * P.cellsOf e)) (P.cellsOf e) = some p.1 ∧ All2 (Rd w (Old w)) p.1 (C p.2) := by
    intro i hi
    have hb := hel2 i hi
    rw [List.getElem?_eq_getElem (by omega)] at hb
    obtain ⟨cs', h1, h2⟩ := Option.bind_eq_some_iff.1 hb
    obtain ⟨y, hy⟩ := hel n (by omega) cs' _ h2
    exact ⟨(cs', y), h1, hy⟩
  obtain ⟨f, hf⟩ := Go.Deep.choose_lt hone
  let L : List α := (List.range len).map fun i => (f i).2
  have hL : L.length = len := by simp [L]
  rcases Nat.eq_zero_or_pos len with h0 | h0
  · subst h0
    have : L = [] := by simp [L]
    exact ⟨[], Rd.nil, trivial⟩
  have hcell : ∀ i k, i < len → k < P.cellsOf e → ∃ v c, w.cell? (a.add (i * P.cellsOf e + k)) = some v ∧ (C (f i).2)[k]? = some c ∧ Rd w (Old w) v c := by
    intro i k hi hk
    obtain ⟨h1, h2⟩ := hf i hi
    obtain ⟨_, h3, h4⟩ := Go.World.cells?_some h1
    have h5 := h4 k hk
    rw [Go.Deep.add_add] at h5
    have h6 : k < (f i).1.length := by omega
    rw [List.getElem?_eq_getElem h6] at h5
    have h7 : k < (C (f i).2).length := by rw [hC]; exact hk
    exact ⟨_, _, h5, List.getElem?_eq_getElem h7, h2.get (List.getElem?_eq_getElem h6) (List.getElem?_eq_getElem h7)⟩
  have hspot : a.spot = none := by
    obtain ⟨v, _, h1, _⟩ := hcell 0 0 h0 hpos
    simp only [Nat.zero_mul, Nat.add_zero, Addr.add, if_true] at h1
    unfold Go.World.cell? at h1
    split at h1
    · split at h1
      · cases h1
      · rename_i hs; simpa using hs
    · cases h1
  have haddr : ∀ j, a.add j = ⟨a.block, a.off + j, none⟩ := by
    intro j
    unfold Addr.add
    split
    · rename_i hj; subst hj; cases a; simp_all
    · rfl
  have hblk : a.block < w.heap.size := by
    obtain ⟨v, _, h1, _⟩ := hcell 0 0 h0 hpos
    unfold Go.World.cell? at h1
    rw [haddr] at h1
    simp only at h1
    cases hh : w.heap[a.block]? with
    | none => rw [hh] at h1; cases h1
    | some o => exact (Array.getElem?_eq_some_iff.1 hh).1
  refine ⟨L, ?_, trivial⟩
  have hval : (Value.slice (some a) len cap) = .slice (some ⟨a.block, a.off, none⟩) (L.map C).length cap := by
    rw [List.length_map, hL]; cases a; simp_all
  rw [hval]
  have hszL : ∀ es ∈ L.map C, es.length = P.cellsOf e := by
    intro es hes; obtain ⟨y, _, rfl⟩ := List.mem_map.1 hes; exact hC y
  have hflat : (L.map C).flatten.length = len * P.cellsOf e := by rw [flatten_length hszL, List.length_map, hL]
  refine Rd.slice (sz := P.cellsOf e) (xs := (List.range (len * P.cellsOf e)).map fun j => (w.cell? (a.add j)).getD undef) hblk (by rw [List.length_map, hL]; exact hl) hm hszL (by rw [hflat]; simp) ?_ ?_
  · intro j u hu
    have hj : j < len * P.cellsOf e := by
      have := (List.getElem?_eq_some_iff.1 hu).1; simpa using this
    simp only [List.getElem?_map, List.getElem?_range hj, Option.map_some, Option.some.injEq] at hu
    obtain ⟨v, _, h1, _⟩ := hcell (j / P.cellsOf e) (j % P.cellsOf e) (Nat.div_lt_of_lt_mul (by rw [Nat.mul_comm]; exact hj)) (Nat.mod_lt _ hpos)
    have hdm : j / P.cellsOf e * P.cellsOf e + j % P.cellsOf e = j := by rw [Nat.mul_comm]; exact Nat.div_add_mod j _
    rw [hdm] at h1
    rw [h1] at hu
    rw [← haddr, h1]
    simpa using hu
  · intro j u c hu hc
    have hj : j < len * P.cellsOf e := by
      have := (List.getElem?_eq_some_iff.1 hu).1; simpa using this
    simp only [List.getElem?_map, List.getElem?_range hj, Option.map_some, Option.some.injEq] at hu
    have hi : j / P.cellsOf e < len := Nat.div_lt_of_lt_mul (by rw [Nat.mul_comm]; exact hj)
    obtain ⟨v, c', h1, h2, h3⟩ := hcell (j / P.cellsOf e) (j % P.cellsOf e) hi (Nat.mod_lt _ hpos)
    have hdm : j / P.cellsOf e * P.cellsOf e + j % P.cellsOf e = j := by rw [Nat.mul_comm]; exact Nat.div_add_mod j _
    rw [hdm] at h1
    rw [h1] at hu
    have hLi : (L.map C)[j / P.cellsOf e]? = some (C (f (j / P.cellsOf e)).2) := by simp [L, hi]
    have := flatten_get hszL hLi h2
    rw [hdm, hc] at this
    simp only [Option.some.injEq] at this
    subst this
    simp only [Option.getD_some] at hu
    subst hu
    exact h3

/-- a struct's cells, field by field -/
theorem seg {R : Value → Cell → Prop} {cs : List Value} {k n m : Nat} {a b : List Cell} (h1 : All2 R ((cs.drop k).take n) a) (h2 : All2 R (cs.drop m) b) (e : k + n = m) : All2 R (cs.drop k) (a ++ b) := by
  subst e
  have := h1.append h2
  rwa [← List.drop_drop, List.take_append_drop] at this
theorem segEnd {R : Value → Cell → Prop} {cs : List Value} {n : Nat} (h : cs.length = n) : All2 R (cs.drop n) [] := by
  rw [List.drop_of_length_le (by omega)]; trivial

theorem trod_field {fs : Array Field} {xs : List (DataW H × List MemPlace)} {n : Nat} (hlen : xs.length = fs.size)
    (h : ∀ (i : Nat) (f : Field), fs[i]? = some f → DataW.trod enc P w 0 sp hd n f.type ((cs.drop f.offset).take (P.cellsOf f.type)) = xs[i]?) (i : Nat) {f : Field} (hf : fs[i]? = some f) :
    ∃ y, DataW.trod enc P w 0 sp hd n f.type ((cs.drop f.offset).take (P.cellsOf f.type)) = some y := by
  have hi : i < fs.size := (Array.getElem?_eq_some_iff.1 hf).1
  exact ⟨xs[i]'(by omega), by rw [h i f hf]; exact List.getElem?_eq_getElem _⟩

theorem sameAt_kept {W W' : Go.World} (hk : W.kept W') {p : MemPlace} (hp : p.block < W.heap.size) : W.sameAt W' p := by
  cases p with
  | cell b off => exact cell_of_heap (hk.2.2 b hp)
  | map b => exact hk.2.2 b hp

/-- what is kept reads again, whatever the spare -/
theorem trodAll_kept {W W' : Go.World} (hl : laidOutB P = true) (hmr : mapsRowed P = true) (hsz : ((List.range P.types.size).all fun t => match P.underlying t with | some (.slice e) => decide (0 < P.cellsOf e) | _ => true) = true)
    (hk : W.kept W') {sp : Nat → Bool} : ∀ {ts : List TypeId} {vs : List Value} {ds : List (DataW H)} {ps : List MemPlace}, (∀ t ∈ ts, t < P.types.size) → DataW.TrodAll enc P W 0 (fun _ => true) true ts vs ds ps → (∀ p ∈ ps, sp p.block = true) →
      DataW.TrodAll enc P W' 0 sp true ts vs ds ps
  | [], [], [], ps, _, h, _ => h
  | t :: ts, v :: vs, d :: ds, ps, ht, ⟨p, q, ⟨fuel, hf⟩, h2, e⟩, hs => by
    subst e
    have hlt := DataW.trod_lt _ _ _ _ hf
    refine ⟨p, q, ⟨fuel, DataW.trod_stays (kids_rows hl hmr) (fun {t e} ht hu => ?_) (fun hh => by cases hh) (ht t List.mem_cons_self) hf (fun y hy => sameAt_kept hk (hlt y hy)) (fun y hy => hs y (List.mem_append_left _ hy))⟩,
      trodAll_kept hl hmr hsz hk (fun t ht' => ht t (List.mem_cons_of_mem _ ht')) h2 (fun y hy => hs y (List.mem_append_right _ hy)), rfl⟩
    have := List.all_eq_true.1 hsz t (List.mem_range.2 ht)
    rw [hu] at this
    simpa using this
  | [], _ :: _, _, _, _, h, _ => h.elim
  | [], [], _ :: _, _, _, h, _ => h.elim
  | _ :: _, [], _, _, _, h, _ => h.elim
  | _ :: _, _ :: _, [], _, _, h, _ => h.elim

/-- a struct argument -/
theorem agg_rel {W : Go.World} {v : Value} {cs : List Cell} (h : ∃ arr, v = .agg arr) (hc : All2 (Rd W (Old W)) v.cells.toList cs) : SVRel W (allI W) (obOf []) (.agg (vals cs)) v := by
  obtain ⟨arr, rfl⟩ := h
  refine ⟨arr, rfl, ?_⟩
  have : (Value.agg arr).cells = arr := rfl
  rw [this] at hc
  exact All2.map_left _ (hc.flip.imp fun c u hr => ⟨hr, hr.one⟩) |>.imp fun _ _ h => h
/-- a slice argument -/
theorem one_rel {W : Go.World} {v : Value} {c : Cell} (hv : v.cells = #[v]) (hc : All2 (Rd W (Old W)) v.cells.toList [c]) : SVRel W (allI W) (obOf []) (.one (.val c)) v := by
  rw [hv] at hc
  exact ⟨hc.1, fun _ => hc.1.one⟩
end
end Go.Proofs.Ytamcedjjlokfhaa
