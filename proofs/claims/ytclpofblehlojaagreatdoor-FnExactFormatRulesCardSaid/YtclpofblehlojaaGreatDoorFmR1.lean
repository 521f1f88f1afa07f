/- Part 1 of the proof: The program's FormatRules returns what the reference's returns, for all arguments. No condition. -/
import Derived.Test.YtclpofblehlojaaGreatDoorQ5
import Derived.Shelf.Strconv.AppendIntPublic10
section
namespace Go.Proofs.YtclpofblehlojaaGreatDoor
open Go Go.Proofs Go.Shelf Go.RowKit Go.Sort Go.Lib Go.Proofs.YtclpofblehlojaaGreatDoor.Ab
set_option linter.unusedVariables false
variable {P : Program} {ρ : Ren}
def GB (w w' : Go.World) (v v' : Value) : Prop := w.grownBy w' v.ownBlock ∧ (∀ b, v'.ownBlock = some b → v.ownBlock = some b ∨ (w.heap.size ≤ b ∧ b < w'.heap.size))
theorem wp_app {ops : Array Oper} {rest : List Oper} {o : Oper} {a : Act} {w : Go.World} {Q : Exit → Act → Go.World → Prop} (hgd : o.guard = none) (sl x : Operand) (t u : TypeId)
    (ho : o.op = .call { callee := .builtin .append, args := #[sl, x], argTypes := #[t, u] }) (e e0 : TypeId) (d : TypeDesc) (i : TypeInfo) (z : Value) (ht : P.underlying t = some (.slice e)) (hu : P.underlying u = some d)
    (hd : ∀ k, d ≠ .int k) (hi : P.info? e = some i) (hz : i.zero = some z) (hsize : i.size = 1) (hby : i.bytes = 1) (hzs : z.cells.size = 1)
    (v : Value) (n : Nat) (xs : List Value) (hs : a.eval sl = v) (hown : rowN w e0 1 v n xs) (hv0 : n = 0 → ∃ a, v = .slice a 0 0)
    (y : Value) (hx : a.eval x = y) (m : Nat) (news : List Value) (hlen : ∀ w1 : Go.World, (Builtin.lenOf y).run P w1 = .ok m w1) (hfirst : ∀ w1 : Go.World, w1.heap = w.heap → (Builtin.firstCells 1 m y).run P w1 = .ok news.toArray w1)
    (hl : news.length = m) (h1 : ∀ u ∈ news, u.oneCell' = true) (h63 : n + m ≤ 140737488355328)
    (h : ∀ v' w' e', rowN w' e' 1 v' (n + m) (xs ++ news) → GB w w' v v' → (n + m = 0 → ∃ a, v' = .slice a 0 0) → wpList P ops Q rest (a.put o.dst v') w') : wpList P ops Q (o :: rest) a w := by
  refine wpList_plain hgd fun K hK => ?_
  obtain ⟨v', w', e', hr, h2, h3, h4, h5⟩ := run_append_gen (P := P) w t u o.type e e0 d i z 1 1 ht hu hd hi hz hsize hby hzs (by decide) v n xs hown hv0 y m news hlen hfirst (by omega) h1 (by unfold maxLen; omega) (by omega)
  unfold Oper.wp execOp
  simp only [ho, resolve, invoke, builtin, Sem.run_bind, Sem.run_pure, Result.andThen_ok, List.map_toArray, List.map_cons, List.map_nil, hs, hx, hr]
  exact hK _ _ (h v' w' e' h2 ⟨h3, h4⟩ h5)
end Go.Proofs.YtclpofblehlojaaGreatDoor
end
section
namespace Go.Proofs.YtclpofblehlojaaGreatDoor
open Go Go.Proofs Go.Shelf Go.RowKit Go.Sort Go.Lib Go.Proofs.YtclpofblehlojaaGreatDoor.Ab
set_option linter.unusedVariables false
variable {P : Program} {ρ : Ren}
theorem GB.trans {a b c : Go.World} {u v x : Value} (h : GB a b u v) (k : GB b c v x) : GB a c u x := by
  refine ⟨⟨k.1.os.trans h.1.os, k.1.tape.trans h.1.tape, k.1.output.trans h.1.output, Nat.le_trans h.1.size k.1.size, fun i hi hne => ?_⟩, fun i hi => ?_⟩
  · have hv : some i ≠ v.ownBlock := fun e => by
      rcases h.2 i e.symm with h1 | h1
      · exact hne h1.symm
      · omega
    rw [k.1.block i (Nat.lt_of_lt_of_le hi h.1.size) hv, h.1.block i hi hne]
  · rcases k.2 i hi with h1 | h1
    · rcases h.2 i h1 with h2 | h2
      · exact .inl h2
      · exact .inr ⟨h2.1, Nat.lt_of_lt_of_le h2.2 k.1.size⟩
    · exact .inr ⟨Nat.le_trans h.1.size h1.1, h1.2⟩
theorem GB.of_below {w w1 : Go.World} {v : Value} (h : Below w.heap.size w w1) : GB w w1 v v :=
  ⟨⟨h.os, h.tape, h.output, h.size, fun i hi _ => h.block i hi⟩, fun i hi => .inl hi⟩
theorem txt_first (l : List UInt8) : (∀ w1 : Go.World, (Builtin.lenOf (.string ⟨l.toArray⟩)).run P w1 = .ok l.length w1) ∧ (∀ w1 : Go.World, (Builtin.firstCells 1 l.length (.string ⟨l.toArray⟩)).run P w1 = .ok (Lib.byteCells l).toArray w1) := by
  constructor
  · intro w1; simp [Builtin.lenOf, ByteArray.size]
  · intro w1
    simp only [Builtin.firstCells, Sem.run_pure]
    congr 1
    apply Array.ext'
    simp [Lib.byteCells]
set_option maxHeartbeats 6400000 in
set_option maxRecDepth 100000 in
theorem rowN_grow {w : Go.World} {e : TypeId} {size : Nat} {v : Value} {n : Nat} {xs : List Value} (h : rowN w e size v n xs) (k : Nat) (os : Array Obj) : rowN (grow (w.drewN k) os) e size v n xs := by
  obtain ⟨hl, h0 | ⟨g, cap, cur, fz, hv, hb, hh, r⟩⟩ := h
  · exact ⟨hl, .inl h0⟩
  · exact ⟨hl, .inr ⟨g, cap, cur, fz, hv, hb, by rw [Lib.heap_grow_old w k os g (Array.getElem?_eq_some_iff.1 hh).1]; exact hh, r⟩⟩
theorem appU_small (L : LaysM.n288 P ρ) (n u : Nat) (hu : u < 100) (sv : Value) (xs : List Value) (e0 : TypeId) (w : Go.World) (hown : rowN w e0 1 sv n xs) (hv0 : n = 0 → ∃ a, sv = .slice a 0 0) (hlim : n + 20 ≤ 140737488355328) :
    Calls P (ρ.f 288) #[sv, .int .u64 u, .int .i64 10] w fun e w' => ∃ v' e', e = .returned v' ∧ rowN w' e' 1 v' (n + (Lib.decDigits u).length) (xs ++ Lib.byteCells (Lib.decDigits u)) ∧ GB w w' sv v' ∧ (n + (Lib.decDigits u).length = 0 → ∃ a, v' = .slice a 0 0) := by
  have mixed := L.mixed
  have t5 := L.t5; have a5 := L.a5; have z5 := L.z5; have v5 := L.v5
  have t37 := L.t37; have u37 := run_underlying L.t37; have a37 := L.a37; have z37 := L.z37; have v37 := L.v37
  have t53 := L.t53; have a53 := L.a53; have z53 := L.z53; have v53 := L.v53
  have t3 := L.t3; have a3 := L.a3; have z3 := L.z3; have v3 := L.v3
  have t4 := L.t4; have a4 := L.a4; have z4 := L.z4; have v4 := L.v4
  have t9 := L.t9; have a9 := L.a9; have z9 := L.z9; have v9 := L.v9
  have t171 := L.t171; have a171 := L.a171; have z171 := L.z171; have v171 := L.v171
  have t0 := L.t0; have a0 := L.a0; have z0 := L.z0; have v0 := L.v0
  have t173 := L.t173; have a173 := L.a173; have z173 := L.z173; have v173 := L.v173
  have e283 : ∀ args w, (callFunc (ρ.f 283) args).run P w = .ok (.enter (ρ.f 283) args) w := Go.Proofs.enters_of L.f283 (by kernel_rfl) rfl
  obtain ⟨i0, hi, hz0, hz1, hz2⟩ := info_parts L.i5
  have hlen : (Lib.decDigits u).length ≤ 20 := by
    have h1 := Lib.decDigits_length u
    rw [h1]
    by_cases h10 : u < 10
    · rw [Lib.nDigits_small h10]; omega
    · rw [Lib.nDigits_big h10, Lib.nDigits_small (show u / 10 < 10 by omega)]; omega
  have ht := txt_first (P := P) (Lib.decDigits u)
  go_enter L.f288, Body.n288_ntmps ρ
  go_wp2_with (first
    | (go_at_fn (ρ.f 283); refine (Any.internal_strconv_small { L with } u hu _).mono ?_; rintro e w' ⟨rfl, rfl⟩)
    | (at_builtin; refine wp_app rfl _ _ (ρ.t 37) (ρ.t 9) rfl (ρ.t 5) e0 _ i0 _ L.t37 L.t9 (fun k h => by cases h) hi hz0 hz1 hz2 rfl _ n xs rfl hown hv0 _ rfl (Lib.decDigits u).length (Lib.byteCells (Lib.decDigits u)) ht.1 (fun w1 _ => ht.2 w1) (by simp [Lib.byteCells]) (by intro x hx; simp only [Lib.byteCells, List.mem_map] at hx; obtain ⟨b, _, rfl⟩ := hx; rfl) (by omega) ?_))
  intro v' w1 e' hown' hg hz
  go_wp2
  go_ret
  exact ⟨v', e', rfl, hown', hg, fun e => hz (by omega) (List.length_eq_zero_iff.1 (by omega))⟩
set_option maxHeartbeats 12800000 in
set_option maxRecDepth 100000 in
theorem appU_big (L : LaysM.n288 P ρ) (n u : Nat) (hu : 100 ≤ u) (hu64 : u < 18446744073709551616) (sv : Value) (xs : List Value) (e0 : TypeId) (w : Go.World) (hown : rowN w e0 1 sv n xs) (hv0 : n = 0 → ∃ a, sv = .slice a 0 0) (hlim : n + 20 ≤ 140737488355328)
    (htab : Lib.TabIs P w pow10N .u64 Lib.pow10Tab) :
    Calls P (ρ.f 288) #[sv, .int .u64 u, .int .i64 10] w fun e w' => ∃ v' e', e = .returned v' ∧ rowN w' e' 1 v' (n + (Lib.decDigits u).length) (xs ++ Lib.byteCells (Lib.decDigits u)) ∧ GB w w' sv v' ∧ (n + (Lib.decDigits u).length = 0 → ∃ a, v' = .slice a 0 0) := by
  have mixed := L.mixed
  have t5 := L.t5; have a5 := L.a5; have z5 := L.z5; have v5 := L.v5
  have t37 := L.t37; have u37 := run_underlying L.t37; have a37 := L.a37; have z37 := L.z37; have v37 := L.v37
  have t53 := L.t53; have a53 := L.a53; have z53 := L.z53; have v53 := L.v53
  have t3 := L.t3; have a3 := L.a3; have z3 := L.z3; have v3 := L.v3
  have t4 := L.t4; have a4 := L.a4; have z4 := L.z4; have v4 := L.v4
  have t9 := L.t9; have a9 := L.a9; have z9 := L.z9; have v9 := L.v9
  have t171 := L.t171; have a171 := L.a171; have z171 := L.z171; have v171 := L.v171
  have t0 := L.t0; have a0 := L.a0; have z0 := L.z0; have v0 := L.v0
  have t173 := L.t173; have a173 := L.a173; have z173 := L.z173; have v173 := L.v173
  have e284 : ∀ args w, (callFunc (ρ.f 284) args).run P w = .ok (.enter (ρ.f 284) args) w := Go.Proofs.enters_of L.f284 (by kernel_rfl) rfl
  have e285 : ∀ args w, (callFunc (ρ.f 285) args).run P w = .ok (.enter (ρ.f 285) args) w := Go.Proofs.enters_of L.f285 (by kernel_rfl) rfl
  obtain ⟨i0, hi, hz0, hz1, hz2⟩ := info_parts L.i5
  have hu1 : 1 ≤ u := by omega
  have hnd20 : Lib.nDigits u ≤ 20 := by have := Lib.numDigits_eq u hu1 hu64; split at this <;> omega
  have hal : P.arrayLen (ρ.t 171) = 24 := by simp [Program.arrayLen, L.t171]
  have hsl : ∀ W, (Instr.sliceAt (ρ.t 171) (.pointer (some ⟨w.heap.size, 0, none⟩)) none (some (.int .i64 (Lib.nDigits u : Int))) none).run P W = .ok (.slice (some ⟨w.heap.size, 0, none⟩) (Lib.nDigits u) 24) W := fun W => by
    rw [run_sliceAt_array_h W (ρ.t 171) ⟨w.heap.size, 0, none⟩ (by simp [Program.arrayLen, Program.elem, L.t171]) .i64 (Lib.nDigits u : Int) (by omega) (by rw [hal]; omega)]
    go_simp
  have hH0 := Lib.holds_zero0 w (ρ.t 171) (Lib.nDigits u) (by omega)
  have hfmt := Any.internal_strconv_formatBase10 { L with } w.heap.size 0 24 u (Array.replicate (Lib.nDigits u) 0) (w.alloc (.cells Lib.zeros24 (ρ.t 171))) hH0 (by rw [Array.size_replicate]; exact Lib.lt_pow_nDigits u) hu64 (by rw [Array.size_replicate]; omega)
  rw [Array.size_replicate] at hfmt
  have HH0 := Lib.hid hH0
  have iu : (100 : Int) ≤ (u : Int) := by omega
  clear hH0 hal
  go_enter L.f288, Body.n288_ntmps ρ
  go_wp2_with (first
    | (go_at_fn (ρ.f 284); refine (Any.internal_strconv_numDigits { L with } u hu1 hu64 _ (Lib.tabIs_alloc (Eq.subst (motive := fun s => Lib.TabIs P w s .u64 Lib.pow10Tab) (by kernel_rfl) htab) _)).mono ?_; rintro e w' ⟨rfl, rfl⟩))
  go_at_fn (ρ.f 285)
  refine hfmt.mono ?_
  rintro e w' ⟨rfl, k, v', dk, rfl, hF⟩
  have hcells : ∀ j u', (Lib.byteCells (Lib.decDigits u))[j]? = some u' → ((putRow (fun (b : UInt8) => Value.int .u8 (b.toNat : Int)) (w.alloc (.cells Lib.zeros24 (ρ.t 171))) w.heap.size 0 dk).drewN k).cell? ((⟨w.heap.size, 0, none⟩ : Addr).add j) = some u' := by
    intro j u' hj
    have hjl : j < (Lib.decDigits u).length := by
      have h5 := (List.getElem?_eq_some_iff.1 hj).1
      rwa [Lib.byteCells_length] at h5
    have e5 : (Lib.byteCells (Lib.decDigits u))[j]? = some (Value.int .u8 ((Lib.decDigits u)[j].toNat : Int)) := by simp [Lib.byteCells, hjl]
    rw [e5] at hj
    cases hj
    rw [Lib.row_is_numeral hF j hjl, Lib.add_plain, Go.World.cell?_drewN]
    exact cell?_putRow (fun (b : UInt8) => Value.int .u8 (b.toNat : Int)) _ w.heap.size 0 _ dk HH0.out (by rw [hF.size, Array.size_replicate]) j (by rw [hF.size]; rw [Lib.decDigits_length] at hjl; exact hjl)
  obtain ⟨os, eo⟩ := Lib.fin_at w (.cells Lib.zeros24 (ρ.t 171)) dk k 0
  have hown2 : rowN ((putRow (fun (b : UInt8) => Value.int .u8 (b.toNat : Int)) (w.alloc (.cells Lib.zeros24 (ρ.t 171))) w.heap.size 0 dk).drewN k) e0 1 sv n xs := by rw [eo]; exact rowN_grow hown k os
  have hg2 : GB w ((putRow (fun (b : UInt8) => Value.int .u8 (b.toNat : Int)) (w.alloc (.cells Lib.zeros24 (ρ.t 171))) w.heap.size 0 dk).drewN k) sv sv := by rw [eo]; exact GB.of_below (Lib.below_grow w.heap.size w (Nat.le_refl _) k os)
  generalize (putRow (fun (b : UInt8) => Value.int .u8 (b.toNat : Int)) (w.alloc (.cells Lib.zeros24 (ρ.t 171))) w.heap.size 0 dk).drewN k = W2 at hcells hown2 hg2 ⊢
  clear eo HH0 hfmt
  have hnd : (Lib.decDigits u).length = Lib.nDigits u := Lib.decDigits_length u
  have hfst : ∀ w1 : Go.World, w1.heap = W2.heap → (Builtin.firstCells 1 (Lib.nDigits u) (.slice (some ⟨w.heap.size, 0, none⟩) (Lib.nDigits u) 24)).run P w1 = .ok (Lib.byteCells (Lib.decDigits u)).toArray w1 := fun w1 hw1 => by
    refine run_firstCells_some (P := P) w1 1 (Lib.nDigits u) ⟨w.heap.size, 0, none⟩ (Lib.nDigits u) 24 (Lib.byteCells (Lib.decDigits u)) (by rw [Lib.byteCells_length, hnd]; omega) fun j u' hj => ?_
    rw [cell_heap hw1]; exact hcells j u' hj
  go_wp2_with (at_builtin; refine wp_app rfl _ _ (ρ.t 37) (ρ.t 37) rfl (ρ.t 5) e0 _ i0 _ L.t37 L.t37 (fun k h => by cases h) hi hz0 hz1 hz2 rfl _ n xs rfl hown2 hv0 (.slice (some ⟨w.heap.size, 0, none⟩) (Lib.nDigits u) 24) rfl (Lib.nDigits u) (Lib.byteCells (Lib.decDigits u)) (fun w1 => by simp [Builtin.lenOf]) hfst (by rw [Lib.byteCells_length, hnd]) (by intro x hx; simp only [Lib.byteCells, List.mem_map] at hx; obtain ⟨b, _, rfl⟩ := hx; rfl) (by omega) ?_)
  intro v2 w3 e' hown' hg hz
  go_wp2
  go_ret
  rw [hnd]
  exact ⟨v2, e', rfl, hown', hg2.trans hg, fun e => hz (by omega) (by omega)⟩
theorem appU (L : LaysM.n288 P ρ) (n u : Nat) (hu64 : u < 18446744073709551616) (sv : Value) (xs : List Value) (e0 : TypeId) (w : Go.World) (hown : rowN w e0 1 sv n xs) (hv0 : n = 0 → ∃ a, sv = .slice a 0 0) (hlim : n + 20 ≤ 140737488355328)
    (htab : Lib.TabIs P w pow10N .u64 Lib.pow10Tab) :
    Calls P (ρ.f 288) #[sv, .int .u64 u, .int .i64 10] w fun e w' => ∃ v' e', e = .returned v' ∧ rowN w' e' 1 v' (n + (Lib.decDigits u).length) (xs ++ Lib.byteCells (Lib.decDigits u)) ∧ GB w w' sv v' ∧ (n + (Lib.decDigits u).length = 0 → ∃ a, v' = .slice a 0 0) := by
  by_cases h : u < 100
  · exact appU_small L n u h sv xs e0 w hown hv0 hlim
  · exact appU_big L n u (by omega) hu64 sv xs e0 w hown hv0 hlim htab
set_option maxHeartbeats 6400000 in
set_option maxRecDepth 100000 in
theorem appI (L : LaysM.n249 P ρ) (n : Nat) (i : Int) (h0 : -9223372036854775808 ≤ i) (h1 : i ≤ 9223372036854775807) (sv : Value) (xs : List Value) (e0 : TypeId) (w : Go.World) (hown : rowN w e0 1 sv n xs) (hv0 : n = 0 → ∃ a, sv = .slice a 0 0) (hlim : n + 21 ≤ 140737488355328)
    (htab : ∀ w1, GB w w1 sv sv → Lib.TabIs P w1 pow10N .u64 Lib.pow10Tab) (htab2 : ∀ w1 v1, GB w w1 sv v1 → Lib.TabIs P w1 pow10N .u64 Lib.pow10Tab) :
    Calls P (ρ.f 249) #[sv, .int .i64 i, .int .i64 10] w fun e w' => ∃ v' e', e = .returned v' ∧ rowN w' e' 1 v' (n + (Lib.itoa i).length) (xs ++ Lib.byteCells (Lib.itoa i)) ∧ GB w w' sv v' ∧ (n + (Lib.itoa i).length = 0 → ∃ a, v' = .slice a 0 0) := by
  have mixed := L.mixed
  have t5 := L.t5; have a5 := L.a5; have z5 := L.z5; have v5 := L.v5
  have t37 := L.t37; have u37 := run_underlying L.t37; have a37 := L.a37; have z37 := L.z37; have v37 := L.v37
  have t2 := L.t2; have a2 := L.a2; have z2 := L.z2; have v2 := L.v2
  have t3 := L.t3; have a3 := L.a3; have z3 := L.z3; have v3 := L.v3
  have t53 := L.t53; have a53 := L.a53; have z53 := L.z53; have v53 := L.v53
  have t4 := L.t4; have a4 := L.a4; have z4 := L.z4; have v4 := L.v4
  have e288 : ∀ args w, (callFunc (ρ.f 288) args).run P w = .ok (.enter (ρ.f 288) args) w := Go.Proofs.enters_of L.f288 (by kernel_rfl) rfl
  obtain ⟨i0, hi, hz0, hz1, hz2⟩ := info_parts L.i5
  have href : GB w w sv sv := GB.of_below (Below.refl _ _)
  by_cases hneg : i < 0
  · obtain ⟨u, rfl⟩ : ∃ u : Nat, i = -(u : Int) := ⟨i.natAbs, by omega⟩
    have hu1 : 1 ≤ u := by omega
    have hu64 : u < 18446744073709551616 := by omega
    have hwr : IntKind.u64.wrap (-IntKind.u64.wrap (-(u : Int))) = (u : Int) := by rw [IntKind.wrap_u64, IntKind.wrap_u64]; omega
    rw [Lib.itoa_neg u hu1]
    have hal : Below w.heap.size w (w.alloc (.cells #[Value.int .u8 45] (ρ.t 5))) := (Below.refl _ w).alloc (Nat.le_refl _) _
    have hg0 : GB w (w.alloc (.cells #[Value.int .u8 45] (ρ.t 5))) sv sv := GB.of_below hal
    have hfst : ∀ w1 : Go.World, w1.heap = (w.alloc (.cells #[Value.int .u8 45] (ρ.t 5))).heap → (Builtin.firstCells 1 1 (.slice (some ⟨w.heap.size, 0, none⟩) 1 1)).run P w1 = .ok [Value.int .u8 45].toArray w1 := fun w1 hw1 => by
      refine run_firstCells_some (P := P) w1 1 1 ⟨w.heap.size, 0, none⟩ 1 1 [Value.int .u8 45] rfl fun j u' hj => ?_
      rw [cell_heap hw1]
      match j, hj with
      | 0, hj => simp at hj; subst hj; simp [Addr.add]
    have hownA : rowN (w.alloc (.cells #[Value.int .u8 45] (ρ.t 5))) e0 1 sv n xs := hown.alloc _
    go_enter L.f249, Body.n249_ntmps ρ
    go_wp2_with (at_builtin; refine wp_app rfl _ _ (ρ.t 37) (ρ.t 37) rfl (ρ.t 5) e0 _ i0 _ L.t37 L.t37 (fun k h => by cases h) hi hz0 hz1 hz2 rfl sv n xs rfl hownA hv0 (.slice (some ⟨w.heap.size, 0, none⟩) 1 1) rfl 1 [Value.int .u8 45] (fun w1 => by simp [Builtin.lenOf]) hfst rfl (by intro x hx; simp at hx; subst hx; rfl) (by omega) ?_)
    intro v1 w1 e1 hown1 hg1
    have hg01 := hg0.trans hg1
    have htab1 := htab2 w1 v1 hg01
    go_wp2_with (go_at_fn (ρ.f 288); refine (appU { L with } (n + 1) u hu64 v1 _ e1 w1 hown1 (fun e => absurd e (by omega)) (by omega) htab1).mono ?_; rintro e w2 ⟨v2, e2, rfl, hown2, hg2, hz2'⟩)
    go_wp2
    go_ret
    have e1' : n + ((Lib.decDigits u).length + 1) = n + 1 + (Lib.decDigits u).length := by omega
    have e2' : xs ++ Lib.byteCells (45 :: Lib.decDigits u) = xs ++ [Value.int .u8 45] ++ Lib.byteCells (Lib.decDigits u) := by simp [Lib.byteCells]
    refine ⟨v2, e2, rfl, ?_, hg01.trans hg2, fun e => hz2' (by simp at e)⟩
    rw [e1', e2']
    exact hown2
  · obtain ⟨u, rfl⟩ : ∃ u : Nat, i = u := ⟨i.toNat, by omega⟩
    have hu64 : u < 18446744073709551616 := by omega
    rw [Lib.itoa_nonneg]
    go_enter L.f249, Body.n249_ntmps ρ
    go_wp2_with (go_at_fn (ρ.f 288); refine (appU { L with } n u hu64 sv xs e0 w hown hv0 (by omega) (htab w href)).mono ?_; rintro e w2 ⟨v2, e2, rfl, hown2, hg2, hz2'⟩)
    go_wp2
    first | go_ret | go_ret2
    exact ⟨v2, e2, rfl, hown2, hg2, hz2'⟩
set_option maxRecDepth 100000 in
theorem appP (L : LaysM.n176 P ρ) (n : Nat) (i : Int) (h0 : -9223372036854775808 ≤ i) (h1 : i ≤ 9223372036854775807) (sv : Value) (xs : List Value) (e0 : TypeId) (w : Go.World) (hown : rowN w e0 1 sv n xs) (hv0 : n = 0 → ∃ a, sv = .slice a 0 0) (hlim : n + 21 ≤ 140737488355328)
    (htab : ∀ w1 v1, GB w w1 sv v1 → Lib.TabIs P w1 pow10N .u64 Lib.pow10Tab) :
    Calls P (ρ.f 176) #[sv, .int .i64 i, .int .i64 10] w fun e w' => ∃ v' e', e = .returned v' ∧ rowN w' e' 1 v' (n + (Lib.itoa i).length) (xs ++ Lib.byteCells (Lib.itoa i)) ∧ GB w w' sv v' ∧ (n + (Lib.itoa i).length = 0 → ∃ a, v' = .slice a 0 0) := by
  have mixed := L.mixed
  have t5 := L.t5; have a5 := L.a5; have z5 := L.z5; have v5 := L.v5
  have t37 := L.t37; have u37 := run_underlying L.t37; have a37 := L.a37; have z37 := L.z37; have v37 := L.v37
  have t2 := L.t2; have a2 := L.a2; have z2 := L.z2; have v2 := L.v2
  have t3 := L.t3; have a3 := L.a3; have z3 := L.z3; have v3 := L.v3
  have e249 : ∀ args w, (callFunc (ρ.f 249) args).run P w = .ok (.enter (ρ.f 249) args) w := Go.Proofs.enters_of L.f249 (by kernel_rfl) rfl
  go_enter L.f176, Body.n176_ntmps ρ
  go_wp2_with (go_at_fn (ρ.f 249); refine (appI { L with } n i h0 h1 sv xs e0 w hown hv0 hlim (fun w1 h => htab w1 sv h) htab).mono ?_; rintro e w2 ⟨v2, e2, rfl, hown2, hg2, hz2⟩)
  go_wp2
  go_ret
  exact ⟨v2, e2, rfl, hown2, hg2, hz2⟩
end Go.Proofs.YtclpofblehlojaaGreatDoor
end
section
namespace Go.Proofs.YtclpofblehlojaaGreatDoor
open Go Go.Proofs Go.Shelf Go.RowKit Go.Sort Go.Lib Go.Proofs.YtclpofblehlojaaGreatDoor.Ab
set_option linter.unusedVariables false
theorem bytes_flat : ∀ (l : List UInt8), (l.map byteC).flatten = l.map fun b => Cell.lit (.int .u8 (b.toNat : Int))
  | [] => rfl
  | b :: r => by simp only [List.map_cons, List.flatten_cons, bytes_flat r]; rfl
theorem post_app {w w' : Go.World} {ι : Interp} {args : List SV} {vals : Array Value} {v' : Value} {R : List (List Cell)} {l : List UInt8} (hp : PreRel w ι [.arr true 1 R] args vals)
    {e e' : TypeId} {xs : List Value} {Fs : Nat → Nat → Prop} (h1 : rowN w e 1 (ι.sl 0) R.length xs) (h2 : ∀ x ∈ R, x.length = 1) (h3 : ∀ b, (ι.sl 0).ownBlock = some b → ι.fp 0 b) (h4 : ∀ j b, Fs j b → ι.fp 0 b)
    (h5 : ∀ j b, (ι.sl 0).ownBlock = some b → ¬ Fs j b) (h6 : ∀ j j' b, j ≠ j' → Fs j b → ¬ Fs j' b) (h7 : ∀ (j : Nat) (u : Value) (c : Cell), xs[j]? = some u → R.flatten[j]? = some c → Nest w ι.G true (Fs j) u c)
    (g1 : rowN w' e' 1 v' (R.length + l.length) (xs ++ Lib.byteCells l)) (g2 : GB w w' (ι.sl 0) v') (g3 : R.length + l.length = 0 → ∃ a, v' = .slice a 0 0) :
    PostRel w ι [.arr true 1 R] [.dead, .arr true 1 (R ++ l.map byteC)] (.sv (.one (.ref 1))) w' v' ⟨ι.G, ι.blk, fun i => if i = 1 then v' else ι.sl i, fun i b => i = 1 ∧ (v'.ownBlock = some b ∨ ∃ k, k < xs.length ∧ Fs k b)⟩ := by
  have keep : ∀ b, b < w.heap.size → (ι.sl 0).ownBlock ≠ some b → w'.heap[b]? = w.heap[b]? := fun b hb hne => g2.1.block b hb fun e => hne e.symm
  have hFs : ∀ k b, Fs k b → b < w.heap.size ∧ (ι.sl 0).ownBlock ≠ some b := fun k b hb => ⟨hp.lt 0 b (h4 k b hb), fun e => h5 k b e hb⟩
  have hG : ∀ b, ι.G b → b < w.heap.size ∧ (ι.sl 0).ownBlock ≠ some b := fun b hb => ⟨hp.glt b hb, fun e => hp.gfp 0 b (h3 b e) hb⟩
  have hxl : xs.length = R.flatten.length := by
    have a := h1.1
    have b : R.flatten.length = R.length * 1 := flatten_length h2
    omega
  have hv' : ∀ b, v'.ownBlock = some b → (ι.fp 0 b) ∨ (w.heap.size ≤ b ∧ b < w'.heap.size) := fun b hb => (g2.2 b hb).imp (h3 b) id
  have hnew : ∀ k b, v'.ownBlock = some b → ¬ Fs k b := fun k b hb hk => by
    rcases g2.2 b hb with a | a
    · exact h5 k b a hk
    · have := (hFs k b hk).1; omega
  have harr : ArrRel w' (Nest w' ι.G true) 1 (fun b => v'.ownBlock = some b ∨ ∃ k, k < xs.length ∧ Fs k b) v' (R ++ l.map byteC) := by
    refine ⟨e', xs ++ Lib.byteCells l, fun k b => k < xs.length ∧ Fs k b, ?_, ?_, fun b hb => .inl hb, fun k b hb => .inr ⟨k, hb⟩, fun k b hb hk => hnew k b hb hk.2, fun j j' b hj a c => h6 j j' b hj a.2 c.2, ?_, ?_⟩
    · rw [List.length_append, List.length_map]; exact g1
    · intro x hx
      rcases List.mem_append.1 hx with hx | hx
      · exact h2 x hx
      · obtain ⟨b, _, rfl⟩ := List.mem_map.1 hx; rfl
    · intro j u c hu hc
      rw [List.flatten_append, bytes_flat] at hc
      by_cases hj : j < xs.length
      · rw [List.getElem?_append_left hj] at hu
        rw [List.getElem?_append_left (by omega)] at hc
        have := (h7 j u c hu hc).mono (G' := ι.G) (w' := w') (fun b hb => ⟨hb, keep b (hG b hb).1 (hG b hb).2⟩) (fun b hb => keep b (hFs j b hb).1 (hFs j b hb).2)
        have e : (fun b => j < xs.length ∧ Fs j b) = Fs j := by funext b; simp [hj]
        show Nest w' ι.G true (fun b => j < xs.length ∧ Fs j b) u c
        rw [e]; exact this
      · rw [List.getElem?_append_right (by omega)] at hu
        rw [List.getElem?_append_right (by omega), ← hxl] at hc
        simp only [Lib.byteCells, List.getElem?_map] at hu hc
        cases hk : l[j - xs.length]? with
        | none => rw [hk] at hu; cases hu
        | some b =>
          rw [hk] at hu hc
          simp only [Option.map_some, Option.some.injEq] at hu hc
          subst hu; subst hc
          exact OwnC.lit (show litOK (.int .u8 _) from trivial)
    · intro he
      refine g3 ?_
      have := congrArg List.length he
      rw [List.length_append, List.length_map, List.length_nil] at this; exact this
  have hone : v'.oneCell' = true := by rcases g1.2 with ⟨rfl, _⟩ | ⟨g, cap, cur, fz, rfl, _⟩ <;> rfl
  exact
  { ext := fun j => by
      match j with
      | 0 => exact trivial
      | 1 => exact trivial
      | j + 2 => exact trivial
    obj := fun j => by
      match j with
      | 0 => exact fun b hb => absurd hb.1 (by decide)
      | 1 =>
        have e : (fun b => (1 : Nat) = 1 ∧ (v'.ownBlock = some b ∨ ∃ k, k < xs.length ∧ Fs k b)) = fun b => v'.ownBlock = some b ∨ ∃ k, k < xs.length ∧ Fs k b := by funext b; simp
        show ArrRel w' (Nest w' ι.G true) 1 (fun b => (1 : Nat) = 1 ∧ (v'.ownBlock = some b ∨ ∃ k, k < xs.length ∧ Fs k b)) v' (R ++ l.map byteC)
        rw [e]; exact harr
      | j + 2 => exact fun b hb => absurd hb.1 (by omega)
    disj := fun i j b hij hi hj => hij (hi.1.trans hj.1.symm)
    gfp := fun i b hi hg => by
      rcases hi.2 with a | ⟨k, _, a⟩
      · rcases hv' b a with c | c
        · exact hp.gfp 0 b c hg
        · have := hp.glt b hg; omega
      · exact hp.gfp 0 b (h4 k b a) hg
    lt := fun i b hi => by
      rcases hi.2 with a | ⟨k, _, a⟩
      · rcases hv' b a with c | c
        · exact Nat.lt_of_lt_of_le (hp.lt 0 b c) g2.1.size
        · exact c.2
      · exact Nat.lt_of_lt_of_le (hFs k b a).1 g2.1.size
    glt := fun b hb => Nat.lt_of_lt_of_le (hp.glt b hb) g2.1.size
    gg := fun _ h => h
    gown := fun _ h => .inl h
    own := fun j b hb => by
      rcases hb.2 with a | ⟨k, _, a⟩
      · rcases hv' b a with c | c
        · exact .inl ⟨0, c⟩
        · exact .inr c.1
      · exact .inl ⟨0, h4 k b a⟩
    frame := fun b hb hn => keep b hb fun e => hn 0 (h3 b e)
    size := g2.1.size
    os := g2.1.os
    out := g2.1.output
    val := ⟨⟨trivial, fun _ _ _ _ => rfl⟩, fun _ => hone⟩ }
end Go.Proofs.YtclpofblehlojaaGreatDoor
end
