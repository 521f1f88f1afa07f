/- The abstract machine, part 6: every value operation is sound. No condition. -/
import Derived.Test.YtamcedjjlokfhaaAb5
import Derived.Laws.BytesArg
namespace Go.Proofs.Ytamcedjjlokfhaa.Ab
open Go
set_option linter.unusedVariables false
section
variable {P : Program} {E : Ent} {s : St} {ι : Interp} {a : Act} {w : World}

theorem run_bytes_str {src dst : TypeId} (hs : isBytes P src = true) (hd : isString P dst = true) {G : Nat → Prop} {v : Value} {es : List (List Cell)} {l : List UInt8} (h : Rd w G v (.list es)) (hes : es = l.map byteC) :
    (convert src dst v).run P w = .ok (bs l) w := by
  obtain ⟨e, h1, h2⟩ : ∃ e, P.underlying src = some (.slice e) ∧ P.underlying e = some (.int .u8) := by
    unfold isBytes at hs
    split at hs
    · rename_i e he
      split at hs
      · exact ⟨e, he, ‹_›⟩
      · cases hs
    · cases hs
  have h3 := isString_ok hd
  have hstr : strOfNums (l.map fun b => (b.toNat : Int)) = ⟨l.toArray⟩ := by
    unfold strOfNums
    have : ((fun n : Int => UInt8.ofNat n.toNat) ∘ fun b : UInt8 => (b.toNat : Int)) = id := by funext b; simp
    rw [List.map_map, this, List.map_id]
  cases h with
  | nil =>
    rename_i ad cap
    have hl : l = [] := by cases l with | nil => rfl | cons x r => simp at hes
    subst hl
    cases ad with
    | none => rw [run_convert_bytes_nil w src e h1 h2 _ _ dst h3]; rfl
    | some ad =>
      rw [run_convert_bytes_string w src dst e _ _ _ h1 h2 h3, run_bytesToString w ad 0 cap [] (by simpa using run_loadCells_list (P := P) w ad [] (by simp))]
      rfl
  | slice hG hc hm hsz hl hx hr =>
    rename_i b off cap sz xs
    have hlen : es.length = l.length := by rw [hes, List.length_map]
    have hflat : es.flatten = l.map fun b => Cell.lit (.int .u8 (b.toNat : Int)) := by
      rw [hes]
      clear hes hlen hl hx hr hsz hc hstr
      induction l with
      | nil => rfl
      | cons x r ih => simp only [List.map_cons, List.flatten_cons, ih]; rfl
    rw [hlen]
    rw [run_convert_bytes_arg w src e h1 h2 b off l.length cap (l.map fun b => (b.toNat : Int)) (by simp) (fun i hi => ?_) dst h3, hstr]
    have hxl : xs.length = l.length := by rw [hl, hflat, List.length_map]
    have hxi : xs[i]? = some xs[i] := List.getElem?_eq_getElem (by omega)
    have hfi : es.flatten[i]? = some (.lit (.int .u8 (l[i].toNat : Int))) := by rw [hflat]; simp [hi]
    have h8 := hr i _ _ hxi hfi
    obtain ⟨h9, _⟩ := h8.lit_inv
    rw [hx i _ hxi, h9]
    simp [hi]

def VOK (P : Program) (s : St) (ι : Interp) (a : Act) (w : World) (o : Oper) (x : AV) : Prop :=
  ∃ v, (execOp a.eval o).run P w = .ok (.value v) w ∧ AVRel w ι s.obj x v

theorem mkSV_rel {ob : Nat → Ob} {l : List AC} {xs : List Value} {ag : Bool} {x : SV} (e : mkSV ag l = some x) (h : All2 (CRel w ι ob) l xs) :
    (ag = true ∧ SVRel w ι ob x (.agg xs.toArray)) ∨ (ag = false ∧ ∃ u, xs = [u] ∧ SVRel w ι ob x u) := by
  unfold mkSV at e
  split at e
  · simp only [Option.some.injEq] at e; subst e
    exact .inl ⟨rfl, xs.toArray, rfl, h⟩
  · split at e
    · simp only [Option.some.injEq] at e; subst e
      match xs, h with
      | [u], h => exact .inr ⟨rfl, u, rfl, h.1.1, fun _ => h.1.2⟩
    · cases e

theorem load_sound (h : Rel E s ι a w) {o : Oper} {T : TypeId} {y : Operand} (ho : o.op = .load T y) {x : AV} {it : List Item} {q q' : List Orc} {K : Prop}
    (e : vop P s o q = some (x, it, q')) (vc : VC it K) : VOK P s ι a w o x ∧ K := by
  simp only [vop, ho] at e
  split at e
  · rename_i c n ag hc hn hg
    split at e
    · rename_i l it1 q1 hr
      cases hm : mkSV ag l with
      | none => simp [hm] at e
      | some sv =>
        simp only [hm, Option.map_some, Option.some.injEq, Prod.mk.injEq] at e
        obtain ⟨rfl, rfl, rfl⟩ := e
        obtain ⟨⟨b, off, xs, hp, hl, hx, ha⟩, hK⟩ := readAt_sound h hr (ac_rel h hc) vc
        refine ⟨?_, hK⟩
        have hlen : xs.length = n := by rw [← ha.length]; exact hl
        rcases mkSV_rel hm ha with ⟨rfl, hs⟩ | ⟨rfl, u, rfl, hs⟩
        · refine ⟨_, ?_, hs⟩
          simp only [execOp, ho, Instr.loadAt, hp, Instr.sureAddr]
          exact run_v _ (by simpa using run_loadVar_agg hg hn hlen hx)
        · refine ⟨_, ?_, hs⟩
          simp only [execOp, ho, Instr.loadAt, hp, Instr.sureAddr]
          exact run_v _ (by simpa using run_loadVar_one hg (hx 0 u rfl))
    · cases e
  · cases e

theorem simple_sound (h : Rel E s ι a w) {o : Oper} {x : AV} {it : List Item} {q q' : List Orc} {K : Prop}
    (hop : match o.op with | .move _ | .assign _ | .pick .. | .nilCheck _ | .binOp .. | .unOp .. | .convert .. | .extract .. | .index .. => True | _ => False)
    (e : vop P s o q = some (x, it, q')) (vc : VC it K) : VOK P s ι a w o x ∧ K := by
  unfold vop at e
  split at e
  case h_1 y ho | h_2 y ho =>
    cases hv : s.ev y with
    | none => simp [hv] at e
    | some v =>
      simp only [hv, Option.map_some, Option.some.injEq, Prod.mk.injEq] at e
      obtain ⟨rfl, rfl, rfl⟩ := e
      exact ⟨⟨_, by simp [execOp, ho], ev_rel h hv⟩, vc⟩
  case h_3 c y z ho =>
    split at e
    · rename_i hc
      cases hv : s.ev y with
      | none => simp [hv] at e
      | some v =>
        simp only [hv, Option.map_some, Option.some.injEq, Prod.mk.injEq] at e
        obtain ⟨rfl, rfl, rfl⟩ := e
        exact ⟨⟨_, by simp [execOp, ho, (lit_rel h hc).1, asBool], ev_rel h hv⟩, vc⟩
    · rename_i hc
      cases hv : s.ev z with
      | none => simp [hv] at e
      | some v =>
        simp only [hv, Option.map_some, Option.some.injEq, Prod.mk.injEq] at e
        obtain ⟨rfl, rfl, rfl⟩ := e
        exact ⟨⟨_, by simp [execOp, ho, (lit_rel h hc).1, asBool], ev_rel h hv⟩, vc⟩
    · cases e
  case h_4 T y ho => simp [ho] at hop
  case h_5 y ho =>
    split at e
    · rename_i c hc
      split at e
      · rename_i hl
        simp only [Option.some.injEq, Prod.mk.injEq] at e
        obtain ⟨rfl, rfl, rfl⟩ := e
        have hr := ac_rel h hc
        obtain ⟨b, off, hp⟩ := ptrLive_some hr hl
        exact ⟨⟨a.eval y, by simp [execOp, ho, hp], hr, fun _ => by rw [hp]; rfl⟩, vc⟩
      · cases e
    · cases e
  case h_6 op T y z T2 ho =>
    split at e
    · rename_i u v hu hv
      cases hb : bop P T op u v with
      | none => simp [hb] at e
      | some r =>
        obtain ⟨r1, r2⟩ := r
        simp only [hb, Option.map_some, Option.some.injEq, Prod.mk.injEq] at e
        obtain ⟨rfl, rfl, rfl⟩ := e
        obtain ⟨h1, h2, h3⟩ := bop_sound (P := P) hb vc
        refine ⟨⟨r1, ?_, lit1_rel h2⟩, h3⟩
        simp only [execOp, ho, (lit_rel h hu).1, (lit_rel h hv).1]
        exact run_v _ (h1 w y z)
    · cases e
  case h_7 T y ho =>
    split at e
    · rename_i b hb
      simp only [Option.some.injEq, Prod.mk.injEq] at e
      obtain ⟨rfl, rfl, rfl⟩ := e
      exact ⟨⟨_, by simp [execOp, ho, (lit_rel h hb).1, Op.unary], lit1_rel trivial⟩, vc⟩
    · cases e
  case h_8 T y ho =>
    split at e
    · rename_i k n hb
      simp only [Option.some.injEq, Prod.mk.injEq] at e
      obtain ⟨rfl, rfl, rfl⟩ := e
      refine ⟨⟨.int k (0 - n), ?_, lit1_rel trivial⟩, vc.2⟩
      simp only [execOp, ho, int_rel h hb]
      exact run_v _ (by simp only [Op.unary, Op.intArith, wrap_rng vc.1, Sem.run_pure])
    · cases e
  case h_9 T1 T2 y ho =>
    split at e
    · rename_i hT
      simp only [Bool.and_eq_true] at hT
      split at e
      · rename_i c l q1 hc
        split at e
        · rename_i sr es hel
          simp only [Option.some.injEq, Prod.mk.injEq] at e
          obtain ⟨rfl, rfl, rfl⟩ := e
          obtain ⟨hes, vc⟩ := vc
          obtain ⟨hrd, _⟩ := elems_rd h (ac_rel h hc) hel
          have hlen : l.length ≤ maxLen := by have := hrd.list_inv.1; rw [hes, List.length_map] at this; exact this
          refine ⟨⟨bs l, ?_, lit1_rel (show l.toArray.size ≤ maxLen by simpa using hlen)⟩, vc⟩
          simp only [execOp, ho]
          exact run_v _ (run_bytes_str hT.1 hT.2 hrd hes)
        · cases e
      · cases e
    · split at e
      · rename_i k n d k2 hy h1 h2
        simp only [Option.some.injEq, Prod.mk.injEq] at e
        obtain ⟨rfl, rfl, rfl⟩ := e
        unfold intOfT at h2
        split at h2
        · rename_i kk hk
          simp only [Option.some.injEq] at h2; subst h2
          refine ⟨⟨_, ?_, lit1_rel trivial⟩, vc.2⟩
          simp only [execOp, ho, int_rel h hy]
          refine run_v _ ?_
          simp [convert, run_underlying h1, run_underlying hk, Conv.intToInt, wrap_rng vc.1]
        · cases h2
      · cases e
  case h_10 S y f ho => simp [ho] at hop
  case h_11 T y i ho => simp [ho] at hop
  case h_12 T y i ho =>
    split at e
    · rename_i l k n hs hl hi
      simp only [Option.some.injEq, Prod.mk.injEq] at e
      obtain ⟨rfl, rfl, rfl⟩ := e
      obtain ⟨⟨h0, hlt⟩, vc⟩ := vc
      refine ⟨⟨_, ?_, lit1_rel trivial⟩, vc⟩
      simp only [execOp, ho, (litS_rel h hl).1, int_rel h hi]
      refine run_v _ ?_
      have hn : n.toNat < (ByteArray.mk l.toArray).size := by show n.toNat < l.toArray.size; simpa using hlt
      have e1 : (ByteArray.mk l.toArray)[n.toNat]? = some (l.getD n.toNat 0) := by
        rw [ByteArray.getElem?_lt' _ _ hn]
        congr 1
        show l.toArray[n.toNat] = _
        simp [List.getD_eq_getElem?_getD, hlt]
      simp [Instr.index, asIntOf, run_underlying (isString_ok hs), h0, e1]
    · cases e
  case h_13 T y lo hi mx ho => simp [ho] at hop
  case h_14 y i ho =>
    split at e
    · rename_i l hl
      split at e
      · rename_i v hv
        simp only [Option.some.injEq, Prod.mk.injEq] at e
        obtain ⟨rfl, rfl, rfl⟩ := e
        obtain ⟨arr, h1, h2⟩ := ev_rel h hl
        obtain ⟨u, hu, hr⟩ := h2.get_left hv
        exact ⟨⟨u, by simp [execOp, ho, h1, Instr.extract, show arr[i]? = some u by simpa using hu], hr⟩, vc⟩
      · cases e
    · cases e
  case h_15 b args tys ho => simp [ho] at hop
  case h_16 => cases e


theorem fieldAddr_sound (h : Rel E s ι a w) {o : Oper} {S : TypeId} {y : Operand} {f : Nat} (ho : o.op = .fieldAddr S y f) {x : AV} {it : List Item} {q q' : List Orc} {K : Prop}
    (e : vop P s o q = some (x, it, q')) (vc : VC it K) : VOK P s ι a w o x ∧ K := by
  simp only [vop, ho] at e
  split at e
  · rename_i c off T n hc hf
    split at e
    · rename_i hn
      cases hs : shift off c with
      | none => simp [hs] at e
      | some c' =>
        simp only [hs, Option.map_some, Option.some.injEq, Prod.mk.injEq] at e
        obtain ⟨rfl, rfl, rfl⟩ := e
        have hr := ac_rel h hc
        obtain ⟨b, o1, hp⟩ := ptrLive_some hr hn.2
        rw [hp] at hr
        unfold tfield at hf
        split at hf
        · rename_i fs hu
          split at hf
          · rename_i fd hfd
            split at hf
            · rename_i n' hsz
              simp only [Option.some.injEq, Prod.mk.injEq] at hf
              obtain ⟨rfl, rfl, rfl⟩ := hf
              refine ⟨⟨_, ?_, shift_rel hr hs, fun _ => rfl⟩, vc⟩
              simp only [execOp, ho, hp]
              refine run_v _ ?_
              simp [Instr.fieldAt, run_underlying hu, hfd, Instr.sureAddr, fieldPlace, run_sizeOf' hsz, hn.1, addr_add]
            · cases hf
          · cases hf
        · cases hf
    · cases e
  · cases e

theorem indexAddr_sound (h : Rel E s ι a w) {o : Oper} {T : TypeId} {y i : Operand} (ho : o.op = .indexAddr T y i) {x : AV} {it : List Item} {q q' : List Orc} {K : Prop}
    (e : vop P s o q = some (x, it, q')) (vc : VC it K) : VOK P s ι a w o x ∧ K := by
  simp only [vop, ho] at e
  split at e
  · rename_i c k n el hc hi ht
    split at e
    · rename_i sz hsz
      have hv := ac_rel h hc
      have run : ∀ (b off len cap : Nat), a.eval y = .slice (some ⟨b, off, none⟩) len cap → 0 ≤ n → n.toNat < len →
          (execOp a.eval o).run P w = .ok (.value (.pointer (some ⟨b, off + n.toNat * sz, none⟩))) w := by
        intro b off len cap he h0 hlt
        simp only [execOp, ho, he, int_rel h hi]
        refine run_v _ ?_
        have h2 : n < (len : Int) := by omega
        simp [Instr.indexAt, asIntOf, run_underlying (telem_ok ht), h0, h2, run_sizeOf' hsz, addr_add]
      unfold idxAddr at e
      split at e
      · rename_i es
        split at e
        · rename_i cl q0
          split at e
          · rename_i hl
            simp only [Option.map_some, Option.some.injEq, Prod.mk.injEq] at e
            obtain ⟨rfl, rfl, rfl⟩ := e
            obtain ⟨⟨h0, hget⟩, vc⟩ := vc
            obtain ⟨b, off, cap, h1, hG, xs, hx, ha⟩ := Rd.elem (show Rd w ι.G _ _ from hv) hget
            refine ⟨⟨_, run b off _ cap h1 h0 (List.getElem?_eq_some_iff.1 hget).1, ?_⟩, vc⟩
            rw [hl] at hx
            exact ⟨⟨by simp, fun _ => ⟨b, _, xs, rfl, hG, hx, ha⟩⟩, fun _ => rfl⟩
          · simp at e
        · simp at e
      · rename_i id es
        split at e
        · rename_i cl q0
          split at e
          · rename_i hl
            simp only [Option.map_some, Option.some.injEq, Prod.mk.injEq] at e
            obtain ⟨rfl, rfl, rfl⟩ := e
            obtain ⟨⟨h0, hget⟩, vc⟩ := vc
            obtain ⟨b, off, cap, h1, hG, xs, hx, ha⟩ := Rd.elem (hv.2 (liveB_ok hl.2)) hget
            refine ⟨⟨_, run b off _ cap h1 h0 (List.getElem?_eq_some_iff.1 hget).1, ?_⟩, vc⟩
            rw [hl.1] at hx
            exact ⟨⟨fun i e => by cases e; exact hv.1, fun _ => ⟨b, _, xs, rfl, hG, hx, ha⟩⟩, fun _ => rfl⟩
          · simp at e
        · simp at e
      · rename_i id
        split at e
        · rename_i own sz' es hob
          split at e
          · rename_i hl
            subst hl
            simp only [Option.map_some, Option.some.injEq, Prod.mk.injEq] at e
            obtain ⟨rfl, rfl, rfl⟩ := e
            obtain ⟨⟨h0, hlt⟩, vc⟩ := vc
            have hr := h.objs id
            rw [hob] at hr
            have hsl := hv.2 _ _ _ hob
            obtain ⟨ty, xs, Fs, h1, _⟩ := hr
            rcases h1.2 with ⟨he, hz⟩ | ⟨g, cap, cur, he, _⟩
            · omega
            · rw [he] at hsl
              refine ⟨⟨_, run g 0 _ cap hsl h0 hlt, ?_⟩, vc⟩
              refine ⟨⟨hv.1, fun own2 sz2 es2 hob2 => ⟨g, by rw [he]; rfl, ?_⟩⟩, fun _ => rfl⟩
              rw [hob] at hob2
              simp only [Ob.arr.injEq] at hob2
              obtain ⟨_, rfl, _⟩ := hob2
              simp
          · simp at e
        · simp at e
      · simp at e
    · cases e
  · cases e

end
end Go.Proofs.Ytamcedjjlokfhaa.Ab
