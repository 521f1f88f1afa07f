/- The program's BaseSource returns what the reference's returns, for all arguments. No condition. -/
import Derived.Test.YtegbadciefljcaaQ4
import Derived.Shelf.Strings.OnBuilder
section
namespace Go.Proofs.Ytegbadciefljcaa
open Go Go.Shelf Go.RowKit Go.Proofs.Ytegbadciefljcaa.Ab
set_option linter.unusedVariables false
def jnRen : Go.Shelf.Ren := ⟨fun | 156 => 26 | 165 => 63 | 166 => 64 | 169 => 65 | 240 => 96 | 241 => 97 | 276 => 120 | 277 => 121 | n => n, fun | 31 => 60 | 9 => 9 | 3 => 3 | 4 => 4 | 0 => 0 | 20 => 20 | 72 => 100 | 76 => 104 | 70 => 98 | 37 => 24 | 75 => 103 | 127 => 128 | 164 => 144 | 5 => 5 | 80 => 22 | n => n, fun | n => n⟩
theorem jnLays : Go.Proofs.Lays.n156 Try.prog jnRen := {
  mixed := by kernel_rfl
  f156 := Try.func26.trans (congrArg some (by kernel_rfl))
  f165 := Try.func63.trans (congrArg some (by kernel_rfl))
  f166 := Try.func64.trans (congrArg some (by kernel_rfl))
  f169 := Try.func65.trans (congrArg some (by kernel_rfl))
  f240 := Try.func96.trans (congrArg some (by kernel_rfl))
  f241 := Try.func97.trans (congrArg some (by kernel_rfl))
  f276 := Try.func120.trans (congrArg some (by kernel_rfl))
  f277 := Try.func121.trans (congrArg some (by kernel_rfl))
  t0 := Try.underlying0
  a0 := Try.isAgg0
  z0 := Try.sizeOf0
  v0 := Try.zeroValue0
  t3 := Try.underlying3
  a3 := Try.isAgg3
  z3 := Try.sizeOf3
  v3 := Try.zeroValue3
  t4 := Try.underlying4
  a4 := Try.isAgg4
  z4 := Try.sizeOf4
  v4 := Try.zeroValue4
  t9 := Try.underlying9
  a9 := Try.isAgg9
  z9 := Try.sizeOf9
  v9 := Try.zeroValue9
  t20 := Try.underlying20
  a20 := Try.isAgg20
  z20 := Try.sizeOf20
  v20 := Try.zeroValue20
  t31 := Try.underlying60
  a31 := Try.isAgg60
  z31 := Try.sizeOf60
  v31 := Try.zeroValue60
  t37 := Try.underlying24
  a37 := Try.isAgg24
  z37 := Try.sizeOf24
  v37 := Try.zeroValue24
  t70 := Try.underlying98
  a70 := Try.isAgg98
  z70 := Try.sizeOf98
  v70 := Try.zeroValue98
  t72 := Try.underlying100
  a72 := Try.isAgg100
  z72 := Try.sizeOf100
  v72 := Try.zeroValue100
  t75 := Try.underlying103
  a75 := Try.isAgg103
  z75 := Try.sizeOf103
  v75 := Try.zeroValue103
  t76 := Try.underlying104
  a76 := Try.isAgg104
  z76 := Try.sizeOf104
  v76 := Try.zeroValue104
  t127 := Try.underlying128
  a127 := Try.isAgg128
  z127 := Try.sizeOf128
  v127 := Try.zeroValue128
  t164 := Try.underlying144
  a164 := Try.isAgg144
  z164 := Try.sizeOf144
  v164 := Try.zeroValue144 }
theorem jnExtra : Builder.Extra Try.prog jnRen := {
  sizeBuilder := by kernel_rfl
  liesBuilder := by kernel_rfl
  t5 := Try.underlying5
  a5 := Try.isAgg5
  z5 := Try.sizeOf5
  v5 := Try.zeroValue5
  infoByte := by kernel_rfl
  cellsByte := by kernel_rfl
  sizeByte := by kernel_rfl
  neB5 := by decide }
theorem flat_str : ∀ (L : List ByteArray) (j : Nat), (L.map strC).flatten[j]? = (L[j]?).map cS
  | [], j => by simp
  | x :: r, 0 => by simp [strC]
  | x :: r, j + 1 => by
    have := flat_str r j
    simpa [strC] using this
abbrev joinS (L : List ByteArray) (sep : ByteArray) : ByteArray := ⟨(Lib.join (L.map (·.data.toList)) sep.data.toList).toArray⟩
theorem c_join (L : List ByteArray) (sep : ByteArray) (hN : L.length ≤ 140737488355328) (hlen : (Lib.join (L.map (·.data.toList)) sep.data.toList).length ≤ 1000000) :
    CallOK Try.prog 26 [] [ll (L.map strC), ls sep] [] (.sv (ls (joinS L sep))) := by
  refine ⟨Try.call26, fun w ι vals hp => ?_⟩
  have hpost : ∀ w', Below w.heap.size w w' → PostRel w ι [] [] (.sv (ls (joinS L sep))) w' (.string (joinS L sep)) ι := fun w' hb =>
    { ext := fun j => trivial
      obj := fun j => hp.obj j
      disj := hp.disj
      gfp := hp.gfp
      lt := fun i b h => absurd h (hp.obj i b)
      glt := fun b h => Nat.lt_of_lt_of_le (hp.glt b h) hb.size
      gg := fun _ h => h
      gown := fun _ h => .inl h
      own := fun j b h => absurd h (hp.obj j b)
      frame := fun b h _ => hb.block b h
      size := hb.size
      os := hb.os
      out := hb.output
      val := ⟨.lit (by show (Lib.join (L.map (·.data.toList)) sep.data.toList).toArray.size ≤ maxLen; rw [List.size_toArray]; exact Nat.le_trans hlen (by decide)), fun _ => rfl⟩ }
  have harg := hp.arg
  rcases vals with ⟨l⟩
  match l, harg with
  | [v0, v1], ⟨h0, h1, _⟩ =>
    obtain ⟨rfl, _⟩ := h1.1.lit_inv
    have h2 : Rd w ι.G v0 (.list (L.map strC)) := h0.1
    generalize hE : L.map strC = es at h2
    cases h2 with
    | nil =>
      obtain rfl : L = [] := List.map_eq_nil_iff.1 hE
      rename_i a cap
      refine (Any.strings_Join_none jnLays jnExtra a cap sep w).mono fun e w' h => ?_
      obtain ⟨rfl, rfl⟩ := h
      exact ⟨_, ι, rfl, hpost _ (Below.refl _ _)⟩
    | slice hG hc hm hsz hl hx hr =>
      rename_i b off cap sz xs
      subst hE
      rw [List.length_map] at hc ⊢
      refine (Any.strings_Join jnLays jnExtra b off cap L sep w (fun j x hj => ?_) (hp.glt b hG) hN hc (by omega)).mono fun e w' h => ?_
      · have hf := flat_str L j
        rw [hj] at hf
        have hlt : j < xs.length := by
          have := (List.getElem?_eq_some_iff.1 hf).1
          omega
        have e1 : xs[j]? = some xs[j] := List.getElem?_eq_getElem hlt
        have h3 := hr j _ _ e1 hf
        have h4 := hx j _ e1
        rw [h4, (h3.lit_inv).1]
      · exact ⟨_, ι, h.1, hpost _ h.2⟩
end Go.Proofs.Ytegbadciefljcaa
end
section
namespace Go.Proofs.Ytegbadciefljcaa
open Go Go.Proofs.Ytegbadciefljcaa.Ab
set_option linter.unusedVariables false
set_option linter.unusedSimpArgs false
set_option maxHeartbeats 4000000
set_option maxRecDepth 100000
def baseL : List ByteArray := [mkS [40, 100, 101, 102, 105, 110, 101, 45, 115, 121, 110, 116, 97, 120, 32, 108, 101, 116, 32, 40, 115, 121, 110, 116, 97, 120, 45, 114, 117, 108, 101, 115, 32, 40, 41, 32, 40, 40, 95, 32, 40, 40, 120, 32, 101, 41, 32, 46, 46, 46, 41, 32, 98, 32, 46, 46, 46, 41, 32, 40, 40, 108, 97, 109, 98, 100, 97, 32, 40, 120, 32, 46, 46, 46, 41, 32, 98, 32, 46, 46, 46, 41, 32, 101, 32, 46, 46, 46, 41, 41, 41, 41],
  mkS [40, 100, 101, 102, 105, 110, 101, 45, 115, 121, 110, 116, 97, 120, 32, 108, 101, 116, 42, 32, 40, 115, 121, 110, 116, 97, 120, 45, 114, 117, 108, 101, 115, 32, 40, 41, 32, 40, 40, 95, 32, 40, 41, 32, 98, 32, 46, 46, 46, 41, 32, 40, 108, 101, 116, 32, 40, 41, 32, 98, 32, 46, 46, 46, 41, 41, 32, 40, 40, 95, 32, 40, 97, 32, 109, 32, 46, 46, 46, 41, 32, 98, 32, 46, 46, 46, 41, 32, 40, 108, 101, 116, 32, 40, 97, 41, 32, 40, 108, 101, 116, 42, 32, 40, 109, 32, 46, 46, 46, 41, 32, 98, 32, 46, 46, 46, 41, 41, 41, 41, 41],
  mkS [40, 100, 101, 102, 105, 110, 101, 45, 115, 121, 110, 116, 97, 120, 32, 108, 101, 116, 114, 101, 99, 32, 40, 115, 121, 110, 116, 97, 120, 45, 114, 117, 108, 101, 115, 32, 40, 41, 32, 40, 40, 95, 32, 40, 40, 120, 32, 101, 41, 32, 46, 46, 46, 41, 32, 98, 32, 46, 46, 46, 41, 32, 40, 108, 101, 116, 32, 40, 41, 32, 40, 100, 101, 102, 105, 110, 101, 32, 120, 32, 101, 41, 32, 46, 46, 46, 32, 40, 108, 101, 116, 32, 40, 41, 32, 98, 32, 46, 46, 46, 41, 41, 41, 41, 41],
  mkS [40, 100, 101, 102, 105, 110, 101, 45, 115, 121, 110, 116, 97, 120, 32, 97, 110, 100, 32, 40, 115, 121, 110, 116, 97, 120, 45, 114, 117, 108, 101, 115, 32, 40, 41, 32, 40, 40, 95, 41, 32, 35, 116, 41, 32, 40, 40, 95, 32, 101, 41, 32, 101, 41, 32, 40, 40, 95, 32, 101, 32, 109, 32, 46, 46, 46, 41, 32, 40, 105, 102, 32, 101, 32, 40, 97, 110, 100, 32, 109, 32, 46, 46, 46, 41, 32, 35, 102, 41, 41, 41, 41],
  mkS [40, 100, 101, 102, 105, 110, 101, 45, 115, 121, 110, 116, 97, 120, 32, 111, 114, 32, 40, 115, 121, 110, 116, 97, 120, 45, 114, 117, 108, 101, 115, 32, 40, 41, 32, 40, 40, 95, 41, 32, 35, 102, 41, 32, 40, 40, 95, 32, 101, 41, 32, 101, 41, 32, 40, 40, 95, 32, 101, 32, 109, 32, 46, 46, 46, 41, 32, 40, 108, 101, 116, 32, 40, 40, 116, 32, 101, 41, 41, 32, 40, 105, 102, 32, 116, 32, 116, 32, 40, 111, 114, 32, 109, 32, 46, 46, 46, 41, 41, 41, 41, 41, 41],
  mkS [40, 100, 101, 102, 105, 110, 101, 45, 115, 121, 110, 116, 97, 120, 32, 119, 104, 101, 110, 32, 40, 115, 121, 110, 116, 97, 120, 45, 114, 117, 108, 101, 115, 32, 40, 41, 32, 40, 40, 95, 32, 99, 32, 101, 32, 46, 46, 46, 41, 32, 40, 105, 102, 32, 99, 32, 40, 98, 101, 103, 105, 110, 32, 101, 32, 46, 46, 46, 41, 32, 35, 102, 41, 41, 41, 41],
  mkS [40, 100, 101, 102, 105, 110, 101, 45, 115, 121, 110, 116, 97, 120, 32, 99, 111, 110, 100, 32, 40, 115, 121, 110, 116, 97, 120, 45, 114, 117, 108, 101, 115, 32, 40, 101, 108, 115, 101, 41, 32, 40, 40, 95, 41, 32, 35, 102, 41, 32, 40, 40, 95, 32, 40, 101, 108, 115, 101, 32, 101, 32, 46, 46, 46, 41, 41, 32, 40, 98, 101, 103, 105, 110, 32, 101, 32, 46, 46, 46, 41, 41, 32, 40, 40, 95, 32, 40, 99, 32, 101, 32, 46, 46, 46, 41, 32, 109, 32, 46, 46, 46, 41, 32, 40, 105, 102, 32, 99, 32, 40, 98, 101, 103, 105, 110, 32, 101, 32, 46, 46, 46, 41, 32, 40, 99, 111, 110, 100, 32, 109, 32, 46, 46, 46, 41, 41, 41, 41, 41],
  mkS [40, 100, 101, 102, 105, 110, 101, 45, 115, 121, 110, 116, 97, 120, 32, 119, 104, 105, 108, 101, 32, 40, 115, 121, 110, 116, 97, 120, 45, 114, 117, 108, 101, 115, 32, 40, 41, 32, 40, 40, 95, 32, 99, 32, 98, 32, 46, 46, 46, 41, 32, 40, 108, 101, 116, 32, 40, 41, 32, 40, 100, 101, 102, 105, 110, 101, 32, 40, 108, 111, 111, 112, 41, 32, 40, 105, 102, 32, 99, 32, 40, 98, 101, 103, 105, 110, 32, 98, 32, 46, 46, 46, 32, 40, 108, 111, 111, 112, 41, 41, 32, 35, 102, 41, 41, 32, 40, 108, 111, 111, 112, 41, 41, 41, 41, 41],
  mkS [40, 100, 101, 102, 105, 110, 101, 45, 115, 121, 110, 116, 97, 120, 32, 115, 119, 97, 112, 33, 32, 40, 115, 121, 110, 116, 97, 120, 45, 114, 117, 108, 101, 115, 32, 40, 41, 32, 40, 40, 95, 32, 97, 32, 98, 41, 32, 40, 108, 101, 116, 32, 40, 40, 116, 109, 112, 32, 97, 41, 41, 32, 40, 115, 101, 116, 33, 32, 97, 32, 98, 41, 32, 40, 115, 101, 116, 33, 32, 98, 32, 116, 109, 112, 41, 41, 41, 41, 41],
  mkS []]
def nlS : ByteArray := mkS [10]
def baseT : ByteArray := mkS [40, 100, 101, 102, 105, 110, 101, 45, 115, 121, 110, 116, 97, 120, 32, 108, 101, 116, 32, 40, 115, 121, 110, 116, 97, 120, 45, 114, 117, 108, 101, 115, 32, 40, 41, 32, 40, 40, 95, 32, 40, 40, 120, 32, 101, 41, 32, 46, 46, 46, 41, 32, 98, 32, 46, 46, 46, 41, 32, 40, 40, 108, 97, 109, 98, 100, 97, 32, 40, 120, 32, 46, 46, 46, 41, 32, 98, 32, 46, 46, 46, 41, 32, 101, 32, 46, 46, 46, 41, 41, 41, 41, 10, 40, 100, 101, 102, 105, 110, 101, 45, 115, 121, 110, 116, 97, 120, 32, 108, 101, 116, 42, 32, 40, 115, 121, 110, 116, 97, 120, 45, 114, 117, 108, 101, 115, 32, 40, 41, 32, 40, 40, 95, 32, 40, 41, 32, 98, 32, 46, 46, 46, 41, 32, 40, 108, 101, 116, 32, 40, 41, 32, 98, 32, 46, 46, 46, 41, 41, 32, 40, 40, 95, 32, 40, 97, 32, 109, 32, 46, 46, 46, 41, 32, 98, 32, 46, 46, 46, 41, 32, 40, 108, 101, 116, 32, 40, 97, 41, 32, 40, 108, 101, 116, 42, 32, 40, 109, 32, 46, 46, 46, 41, 32, 98, 32, 46, 46, 46, 41, 41, 41, 41, 41, 10, 40, 100, 101, 102, 105, 110, 101, 45, 115, 121, 110, 116, 97, 120, 32, 108, 101, 116, 114, 101, 99, 32, 40, 115, 121, 110, 116, 97, 120, 45, 114, 117, 108, 101, 115, 32, 40, 41, 32, 40, 40, 95, 32, 40, 40, 120, 32, 101, 41, 32, 46, 46, 46, 41, 32, 98, 32, 46, 46, 46, 41, 32, 40, 108, 101, 116, 32, 40, 41, 32, 40, 100, 101, 102, 105, 110, 101, 32, 120, 32, 101, 41, 32, 46, 46, 46, 32, 40, 108, 101, 116, 32, 40, 41, 32, 98, 32, 46, 46, 46, 41, 41, 41, 41, 41, 10, 40, 100, 101, 102, 105, 110, 101, 45, 115, 121, 110, 116, 97, 120, 32, 97, 110, 100, 32, 40, 115, 121, 110, 116, 97, 120, 45, 114, 117, 108, 101, 115, 32, 40, 41, 32, 40, 40, 95, 41, 32, 35, 116, 41, 32, 40, 40, 95, 32, 101, 41, 32, 101, 41, 32, 40, 40, 95, 32, 101, 32, 109, 32, 46, 46, 46, 41, 32, 40, 105, 102, 32, 101, 32, 40, 97, 110, 100, 32, 109, 32, 46, 46, 46, 41, 32, 35, 102, 41, 41, 41, 41, 10, 40, 100, 101, 102, 105, 110, 101, 45, 115, 121, 110, 116, 97, 120, 32, 111, 114, 32, 40, 115, 121, 110, 116, 97, 120, 45, 114, 117, 108, 101, 115, 32, 40, 41, 32, 40, 40, 95, 41, 32, 35, 102, 41, 32, 40, 40, 95, 32, 101, 41, 32, 101, 41, 32, 40, 40, 95, 32, 101, 32, 109, 32, 46, 46, 46, 41, 32, 40, 108, 101, 116, 32, 40, 40, 116, 32, 101, 41, 41, 32, 40, 105, 102, 32, 116, 32, 116, 32, 40, 111, 114, 32, 109, 32, 46, 46, 46, 41, 41, 41, 41, 41, 41, 10, 40, 100, 101, 102, 105, 110, 101, 45, 115, 121, 110, 116, 97, 120, 32, 119, 104, 101, 110, 32, 40, 115, 121, 110, 116, 97, 120, 45, 114, 117, 108, 101, 115, 32, 40, 41, 32, 40, 40, 95, 32, 99, 32, 101, 32, 46, 46, 46, 41, 32, 40, 105, 102, 32, 99, 32, 40, 98, 101, 103, 105, 110, 32, 101, 32, 46, 46, 46, 41, 32, 35, 102, 41, 41, 41, 41, 10, 40, 100, 101, 102, 105, 110, 101, 45, 115, 121, 110, 116, 97, 120, 32, 99, 111, 110, 100, 32, 40, 115, 121, 110, 116, 97, 120, 45, 114, 117, 108, 101, 115, 32, 40, 101, 108, 115, 101, 41, 32, 40, 40, 95, 41, 32, 35, 102, 41, 32, 40, 40, 95, 32, 40, 101, 108, 115, 101, 32, 101, 32, 46, 46, 46, 41, 41, 32, 40, 98, 101, 103, 105, 110, 32, 101, 32, 46, 46, 46, 41, 41, 32, 40, 40, 95, 32, 40, 99, 32, 101, 32, 46, 46, 46, 41, 32, 109, 32, 46, 46, 46, 41, 32, 40, 105, 102, 32, 99, 32, 40, 98, 101, 103, 105, 110, 32, 101, 32, 46, 46, 46, 41, 32, 40, 99, 111, 110, 100, 32, 109, 32, 46, 46, 46, 41, 41, 41, 41, 41, 10, 40, 100, 101, 102, 105, 110, 101, 45, 115, 121, 110, 116, 97, 120, 32, 119, 104, 105, 108, 101, 32, 40, 115, 121, 110, 116, 97, 120, 45, 114, 117, 108, 101, 115, 32, 40, 41, 32, 40, 40, 95, 32, 99, 32, 98, 32, 46, 46, 46, 41, 32, 40, 108, 101, 116, 32, 40, 41, 32, 40, 100, 101, 102, 105, 110, 101, 32, 40, 108, 111, 111, 112, 41, 32, 40, 105, 102, 32, 99, 32, 40, 98, 101, 103, 105, 110, 32, 98, 32, 46, 46, 46, 32, 40, 108, 111, 111, 112, 41, 41, 32, 35, 102, 41, 41, 32, 40, 108, 111, 111, 112, 41, 41, 41, 41, 41, 10, 40, 100, 101, 102, 105, 110, 101, 45, 115, 121, 110, 116, 97, 120, 32, 115, 119, 97, 112, 33, 32, 40, 115, 121, 110, 116, 97, 120, 45, 114, 117, 108, 101, 115, 32, 40, 41, 32, 40, 40, 95, 32, 97, 32, 98, 41, 32, 40, 108, 101, 116, 32, 40, 40, 116, 109, 112, 32, 97, 41, 41, 32, 40, 115, 101, 116, 33, 32, 97, 32, 98, 41, 32, 40, 115, 101, 116, 33, 32, 98, 32, 116, 109, 112, 41, 41, 41, 41, 41, 10]
theorem base_join : joinS baseL nlS = baseT := by kernel_rfl
theorem c_joinB : CallOK Try.prog 26 [] [ll (baseL.map strC), ls nlS] [] (.sv (ls baseT)) := by
  rw [← base_join]; exact c_join baseL nlS (by decide) (by decide +kernel)
abbrev P_c_sBase  : Prop := CallOK Try.prog 6 [] [] [] (.sv (ls baseT))
theorem run_c_sBase : aexec Try.prog (Option.getD (Func.body Try.f6) Code.skip) (entry [] [] 1) [Orc.fin []] (finK Try.prog [ResultVar.tmp 0] [] (AV.sv (ls baseT))) = (ObsEq [] []
 ∧ AV.sv (ls (ByteArray.mk #[(40 : UInt8), (100 : UInt8), (101 : UInt8), (102 : UInt8), (105 : UInt8), (110 : UInt8), (101 : UInt8), (45 : UInt8), (115 : UInt8), (121 : UInt8),
 (110 : UInt8), (116 : UInt8), (97 : UInt8), (120 : UInt8), (32 : UInt8), (108 : UInt8), (101 : UInt8), (116 : UInt8), (32 : UInt8), (40 : UInt8), (115 : UInt8), (121 : UInt8),
 (110 : UInt8), (116 : UInt8), (97 : UInt8), (120 : UInt8), (45 : UInt8), (114 : UInt8), (117 : UInt8), (108 : UInt8), (101 : UInt8), (115 : UInt8), (32 : UInt8), (40 : UInt8), (41
 : UInt8), (32 : UInt8), (40 : UInt8), (40 : UInt8), (95 : UInt8), (32 : UInt8), (40 : UInt8), (40 : UInt8), (120 : UInt8), (32 : UInt8), (101 : UInt8), (41 : UInt8), (32 : UInt8),
 (46 : UInt8), (46 : UInt8), (46 : UInt8), (41 : UInt8), (32 : UInt8), (98 : UInt8), (32 : UInt8), (46 : UInt8), (46 : UInt8), (46 : UInt8), (41 : UInt8), (32 : UInt8), (40 :
 UInt8), (40 : UInt8), (108 : UInt8), (97 : UInt8), (109 : UInt8), (98 : UInt8), (100 : UInt8), (97 : UInt8), (32 : UInt8), (40 : UInt8), (120 : UInt8), (32 : UInt8), (46 : UInt8),
 (46 : UInt8), (46 : UInt8), (41 : UInt8), (32 : UInt8), (98 : UInt8), (32 : UInt8), (46 : UInt8), (46 : UInt8), (46 : UInt8), (41 : UInt8), (32 : UInt8), (101 : UInt8), (32 :
 UInt8), (46 : UInt8), (46 : UInt8), (46 : UInt8), (41 : UInt8), (41 : UInt8), (41 : UInt8), (41 : UInt8), (10 : UInt8), (40 : UInt8), (100 : UInt8), (101 : UInt8), (102 : UInt8),
 (105 : UInt8), (110 : UInt8), (101 : UInt8), (45 : UInt8), (115 : UInt8), (121 : UInt8), (110 : UInt8), (116 : UInt8), (97 : UInt8), (120 : UInt8), (32 : UInt8), (108 : UInt8),
 (101 : UInt8), (116 : UInt8), (42 : UInt8), (32 : UInt8), (40 : UInt8), (115 : UInt8), (121 : UInt8), (110 : UInt8), (116 : UInt8), (97 : UInt8), (120 : UInt8), (45 : UInt8), (114
 : UInt8), (117 : UInt8), (108 : UInt8), (101 : UInt8), (115 : UInt8), (32 : UInt8), (40 : UInt8), (41 : UInt8), (32 : UInt8), (40 : UInt8), (40 : UInt8), (95 : UInt8), (32 :
 UInt8), (40 : UInt8), (41 : UInt8), (32 : UInt8), (98 : UInt8), (32 : UInt8), (46 : UInt8), (46 : UInt8), (46 : UInt8), (41 : UInt8), (32 : UInt8), (40 : UInt8), (108 : UInt8),
 (101 : UInt8), (116 : UInt8), (32 : UInt8), (40 : UInt8), (41 : UInt8), (32 : UInt8), (98 : UInt8), (32 : UInt8), (46 : UInt8), (46 : UInt8), (46 : UInt8), (41 : UInt8), (41 :
 UInt8), (32 : UInt8), (40 : UInt8), (40 : UInt8), (95 : UInt8), (32 : UInt8), (40 : UInt8), (97 : UInt8), (32 : UInt8), (109 : UInt8), (32 : UInt8), (46 : UInt8), (46 : UInt8),
 (46 : UInt8), (41 : UInt8), (32 : UInt8), (98 : UInt8), (32 : UInt8), (46 : UInt8), (46 : UInt8), (46 : UInt8), (41 : UInt8), (32 : UInt8), (40 : UInt8), (108 : UInt8), (101 :
 UInt8), (116 : UInt8), (32 : UInt8), (40 : UInt8), (97 : UInt8), (41 : UInt8), (32 : UInt8), (40 : UInt8), (108 : UInt8), (101 : UInt8), (116 : UInt8), (42 : UInt8), (32 : UInt8),
 (40 : UInt8), (109 : UInt8), (32 : UInt8), (46 : UInt8), (46 : UInt8), (46 : UInt8), (41 : UInt8), (32 : UInt8), (98 : UInt8), (32 : UInt8), (46 : UInt8), (46 : UInt8), (46 :
 UInt8), (41 : UInt8), (41 : UInt8), (41 : UInt8), (41 : UInt8), (41 : UInt8), (10 : UInt8), (40 : UInt8), (100 : UInt8), (101 : UInt8), (102 : UInt8), (105 : UInt8), (110 :
 UInt8), (101 : UInt8), (45 : UInt8), (115 : UInt8), (121 : UInt8), (110 : UInt8), (116 : UInt8), (97 : UInt8), (120 : UInt8), (32 : UInt8), (108 : UInt8), (101 : UInt8), (116 :
 UInt8), (114 : UInt8), (101 : UInt8), (99 : UInt8), (32 : UInt8), (40 : UInt8), (115 : UInt8), (121 : UInt8), (110 : UInt8), (116 : UInt8), (97 : UInt8), (120 : UInt8), (45 :
 UInt8), (114 : UInt8), (117 : UInt8), (108 : UInt8), (101 : UInt8), (115 : UInt8), (32 : UInt8), (40 : UInt8), (41 : UInt8), (32 : UInt8), (40 : UInt8), (40 : UInt8), (95 :
 UInt8), (32 : UInt8), (40 : UInt8), (40 : UInt8), (120 : UInt8), (32 : UInt8), (101 : UInt8), (41 : UInt8), (32 : UInt8), (46 : UInt8), (46 : UInt8), (46 : UInt8), (41 : UInt8),
 (32 : UInt8), (98 : UInt8), (32 : UInt8), (46 : UInt8), (46 : UInt8), (46 : UInt8), (41 : UInt8), (32 : UInt8), (40 : UInt8), (108 : UInt8), (101 : UInt8), (116 : UInt8), (32 :
 UInt8), (40 : UInt8), (41 : UInt8), (32 : UInt8), (40 : UInt8), (100 : UInt8), (101 : UInt8), (102 : UInt8), (105 : UInt8), (110 : UInt8), (101 : UInt8), (32 : UInt8), (120 :
 UInt8), (32 : UInt8), (101 : UInt8), (41 : UInt8), (32 : UInt8), (46 : UInt8), (46 : UInt8), (46 : UInt8), (32 : UInt8), (40 : UInt8), (108 : UInt8), (101 : UInt8), (116 : UInt8),
 (32 : UInt8), (40 : UInt8), (41 : UInt8), (32 : UInt8), (98 : UInt8), (32 : UInt8), (46 : UInt8), (46 : UInt8), (46 : UInt8), (41 : UInt8), (41 : UInt8), (41 : UInt8), (41 :
 UInt8), (41 : UInt8), (10 : UInt8), (40 : UInt8), (100 : UInt8), (101 : UInt8), (102 : UInt8), (105 : UInt8), (110 : UInt8), (101 : UInt8), (45 : UInt8), (115 : UInt8), (121 :
 UInt8), (110 : UInt8), (116 : UInt8), (97 : UInt8), (120 : UInt8), (32 : UInt8), (97 : UInt8), (110 : UInt8), (100 : UInt8), (32 : UInt8), (40 : UInt8), (115 : UInt8), (121 :
 UInt8), (110 : UInt8), (116 : UInt8), (97 : UInt8), (120 : UInt8), (45 : UInt8), (114 : UInt8), (117 : UInt8), (108 : UInt8), (101 : UInt8), (115 : UInt8), (32 : UInt8), (40 :
 UInt8), (41 : UInt8), (32 : UInt8), (40 : UInt8), (40 : UInt8), (95 : UInt8), (41 : UInt8), (32 : UInt8), (35 : UInt8), (116 : UInt8), (41 : UInt8), (32 : UInt8), (40 : UInt8),
 (40 : UInt8), (95 : UInt8), (32 : UInt8), (101 : UInt8), (41 : UInt8), (32 : UInt8), (101 : UInt8), (41 : UInt8), (32 : UInt8), (40 : UInt8), (40 : UInt8), (95 : UInt8), (32 :
 UInt8), (101 : UInt8), (32 : UInt8), (109 : UInt8), (32 : UInt8), (46 : UInt8), (46 : UInt8), (46 : UInt8), (41 : UInt8), (32 : UInt8), (40 : UInt8), (105 : UInt8), (102 : UInt8),
 (32 : UInt8), (101 : UInt8), (32 : UInt8), (40 : UInt8), (97 : UInt8), (110 : UInt8), (100 : UInt8), (32 : UInt8), (109 : UInt8), (32 : UInt8), (46 : UInt8), (46 : UInt8), (46 :
 UInt8), (41 : UInt8), (32 : UInt8), (35 : UInt8), (102 : UInt8), (41 : UInt8), (41 : UInt8), (41 : UInt8), (41 : UInt8), (10 : UInt8), (40 : UInt8), (100 : UInt8), (101 : UInt8),
 (102 : UInt8), (105 : UInt8), (110 : UInt8), (101 : UInt8), (45 : UInt8), (115 : UInt8), (121 : UInt8), (110 : UInt8), (116 : UInt8), (97 : UInt8), (120 : UInt8), (32 : UInt8),
 (111 : UInt8), (114 : UInt8), (32 : UInt8), (40 : UInt8), (115 : UInt8), (121 : UInt8), (110 : UInt8), (116 : UInt8), (97 : UInt8), (120 : UInt8), (45 : UInt8), (114 : UInt8),
 (117 : UInt8), (108 : UInt8), (101 : UInt8), (115 : UInt8), (32 : UInt8), (40 : UInt8), (41 : UInt8), (32 : UInt8), (40 : UInt8), (40 : UInt8), (95 : UInt8), (41 : UInt8), (32 :
 UInt8), (35 : UInt8), (102 : UInt8), (41 : UInt8), (32 : UInt8), (40 : UInt8), (40 : UInt8), (95 : UInt8), (32 : UInt8), (101 : UInt8), (41 : UInt8), (32 : UInt8), (101 : UInt8),
 (41 : UInt8), (32 : UInt8), (40 : UInt8), (40 : UInt8), (95 : UInt8), (32 : UInt8), (101 : UInt8), (32 : UInt8), (109 : UInt8), (32 : UInt8), (46 : UInt8), (46 : UInt8), (46 :
 UInt8), (41 : UInt8), (32 : UInt8), (40 : UInt8), (108 : UInt8), (101 : UInt8), (116 : UInt8), (32 : UInt8), (40 : UInt8), (40 : UInt8), (116 : UInt8), (32 : UInt8), (101 :
 UInt8), (41 : UInt8), (41 : UInt8), (32 : UInt8), (40 : UInt8), (105 : UInt8), (102 : UInt8), (32 : UInt8), (116 : UInt8), (32 : UInt8), (116 : UInt8), (32 : UInt8), (40 : UInt8),
 (111 : UInt8), (114 : UInt8), (32 : UInt8), (109 : UInt8), (32 : UInt8), (46 : UInt8), (46 : UInt8), (46 : UInt8), (41 : UInt8), (41 : UInt8), (41 : UInt8), (41 : UInt8), (41 :
 UInt8), (41 : UInt8), (10 : UInt8), (40 : UInt8), (100 : UInt8), (101 : UInt8), (102 : UInt8), (105 : UInt8), (110 : UInt8), (101 : UInt8), (45 : UInt8), (115 : UInt8), (121 :
 UInt8), (110 : UInt8), (116 : UInt8), (97 : UInt8), (120 : UInt8), (32 : UInt8), (119 : UInt8), (104 : UInt8), (101 : UInt8), (110 : UInt8), (32 : UInt8), (40 : UInt8), (115 :
 UInt8), (121 : UInt8), (110 : UInt8), (116 : UInt8), (97 : UInt8), (120 : UInt8), (45 : UInt8), (114 : UInt8), (117 : UInt8), (108 : UInt8), (101 : UInt8), (115 : UInt8), (32 :
 UInt8), (40 : UInt8), (41 : UInt8), (32 : UInt8), (40 : UInt8), (40 : UInt8), (95 : UInt8), (32 : UInt8), (99 : UInt8), (32 : UInt8), (101 : UInt8), (32 : UInt8), (46 : UInt8),
 (46 : UInt8), (46 : UInt8), (41 : UInt8), (32 : UInt8), (40 : UInt8), (105 : UInt8), (102 : UInt8), (32 : UInt8), (99 : UInt8), (32 : UInt8), (40 : UInt8), (98 : UInt8), (101 :
 UInt8), (103 : UInt8), (105 : UInt8), (110 : UInt8), (32 : UInt8), (101 : UInt8), (32 : UInt8), (46 : UInt8), (46 : UInt8), (46 : UInt8), (41 : UInt8), (32 : UInt8), (35 : UInt8),
 (102 : UInt8), (41 : UInt8), (41 : UInt8), (41 : UInt8), (41 : UInt8), (10 : UInt8), (40 : UInt8), (100 : UInt8), (101 : UInt8), (102 : UInt8), (105 : UInt8), (110 : UInt8), (101
 : UInt8), (45 : UInt8), (115 : UInt8), (121 : UInt8), (110 : UInt8), (116 : UInt8), (97 : UInt8), (120 : UInt8), (32 : UInt8), (99 : UInt8), (111 : UInt8), (110 : UInt8), (100 :
 UInt8), (32 : UInt8), (40 : UInt8), (115 : UInt8), (121 : UInt8), (110 : UInt8), (116 : UInt8), (97 : UInt8), (120 : UInt8), (45 : UInt8), (114 : UInt8), (117 : UInt8), (108 :
 UInt8), (101 : UInt8), (115 : UInt8), (32 : UInt8), (40 : UInt8), (101 : UInt8), (108 : UInt8), (115 : UInt8), (101 : UInt8), (41 : UInt8), (32 : UInt8), (40 : UInt8), (40 :
 UInt8), (95 : UInt8), (41 : UInt8), (32 : UInt8), (35 : UInt8), (102 : UInt8), (41 : UInt8), (32 : UInt8), (40 : UInt8), (40 : UInt8), (95 : UInt8), (32 : UInt8), (40 : UInt8),
 (101 : UInt8), (108 : UInt8), (115 : UInt8), (101 : UInt8), (32 : UInt8), (101 : UInt8), (32 : UInt8), (46 : UInt8), (46 : UInt8), (46 : UInt8), (41 : UInt8), (41 : UInt8), (32 :
 UInt8), (40 : UInt8), (98 : UInt8), (101 : UInt8), (103 : UInt8), (105 : UInt8), (110 : UInt8), (32 : UInt8), (101 : UInt8), (32 : UInt8), (46 : UInt8), (46 : UInt8), (46 :
 UInt8), (41 : UInt8), (41 : UInt8), (32 : UInt8), (40 : UInt8), (40 : UInt8), (95 : UInt8), (32 : UInt8), (40 : UInt8), (99 : UInt8), (32 : UInt8), (101 : UInt8), (32 : UInt8),
 (46 : UInt8), (46 : UInt8), (46 : UInt8), (41 : UInt8), (32 : UInt8), (109 : UInt8), (32 : UInt8), (46 : UInt8), (46 : UInt8), (46 : UInt8), (41 : UInt8), (32 : UInt8), (40 :
 UInt8), (105 : UInt8), (102 : UInt8), (32 : UInt8), (99 : UInt8), (32 : UInt8), (40 : UInt8), (98 : UInt8), (101 : UInt8), (103 : UInt8), (105 : UInt8), (110 : UInt8), (32 :
 UInt8), (101 : UInt8), (32 : UInt8), (46 : UInt8), (46 : UInt8), (46 : UInt8), (41 : UInt8), (32 : UInt8), (40 : UInt8), (99 : UInt8), (111 : UInt8), (110 : UInt8), (100 : UInt8),
 (32 : UInt8), (109 : UInt8), (32 : UInt8), (46 : UInt8), (46 : UInt8), (46 : UInt8), (41 : UInt8), (41 : UInt8), (41 : UInt8), (41 : UInt8), (41 : UInt8), (10 : UInt8), (40 :
 UInt8), (100 : UInt8), (101 : UInt8), (102 : UInt8), (105 : UInt8), (110 : UInt8), (101 : UInt8), (45 : UInt8), (115 : UInt8), (121 : UInt8), (110 : UInt8), (116 : UInt8), (97 :
 UInt8), (120 : UInt8), (32 : UInt8), (119 : UInt8), (104 : UInt8), (105 : UInt8), (108 : UInt8), (101 : UInt8), (32 : UInt8), (40 : UInt8), (115 : UInt8), (121 : UInt8), (110 :
 UInt8), (116 : UInt8), (97 : UInt8), (120 : UInt8), (45 : UInt8), (114 : UInt8), (117 : UInt8), (108 : UInt8), (101 : UInt8), (115 : UInt8), (32 : UInt8), (40 : UInt8), (41 :
 UInt8), (32 : UInt8), (40 : UInt8), (40 : UInt8), (95 : UInt8), (32 : UInt8), (99 : UInt8), (32 : UInt8), (98 : UInt8), (32 : UInt8), (46 : UInt8), (46 : UInt8), (46 : UInt8), (41
 : UInt8), (32 : UInt8), (40 : UInt8), (108 : UInt8), (101 : UInt8), (116 : UInt8), (32 : UInt8), (40 : UInt8), (41 : UInt8), (32 : UInt8), (40 : UInt8), (100 : UInt8), (101 :
 UInt8), (102 : UInt8), (105 : UInt8), (110 : UInt8), (101 : UInt8), (32 : UInt8), (40 : UInt8), (108 : UInt8), (111 : UInt8), (111 : UInt8), (112 : UInt8), (41 : UInt8), (32 :
 UInt8), (40 : UInt8), (105 : UInt8), (102 : UInt8), (32 : UInt8), (99 : UInt8), (32 : UInt8), (40 : UInt8), (98 : UInt8), (101 : UInt8), (103 : UInt8), (105 : UInt8), (110 :
 UInt8), (32 : UInt8), (98 : UInt8), (32 : UInt8), (46 : UInt8), (46 : UInt8), (46 : UInt8), (32 : UInt8), (40 : UInt8), (108 : UInt8), (111 : UInt8), (111 : UInt8), (112 : UInt8),
 (41 : UInt8), (41 : UInt8), (32 : UInt8), (35 : UInt8), (102 : UInt8), (41 : UInt8), (41 : UInt8), (32 : UInt8), (40 : UInt8), (108 : UInt8), (111 : UInt8), (111 : UInt8), (112 :
 UInt8), (41 : UInt8), (41 : UInt8), (41 : UInt8), (41 : UInt8), (41 : UInt8), (10 : UInt8), (40 : UInt8), (100 : UInt8), (101 : UInt8), (102 : UInt8), (105 : UInt8), (110 :
 UInt8), (101 : UInt8), (45 : UInt8), (115 : UInt8), (121 : UInt8), (110 : UInt8), (116 : UInt8), (97 : UInt8), (120 : UInt8), (32 : UInt8), (115 : UInt8), (119 : UInt8), (97 :
 UInt8), (112 : UInt8), (33 : UInt8), (32 : UInt8), (40 : UInt8), (115 : UInt8), (121 : UInt8), (110 : UInt8), (116 : UInt8), (97 : UInt8), (120 : UInt8), (45 : UInt8), (114 :
 UInt8), (117 : UInt8), (108 : UInt8), (101 : UInt8), (115 : UInt8), (32 : UInt8), (40 : UInt8), (41 : UInt8), (32 : UInt8), (40 : UInt8), (40 : UInt8), (95 : UInt8), (32 : UInt8),
 (97 : UInt8), (32 : UInt8), (98 : UInt8), (41 : UInt8), (32 : UInt8), (40 : UInt8), (108 : UInt8), (101 : UInt8), (116 : UInt8), (32 : UInt8), (40 : UInt8), (40 : UInt8), (116 :
 UInt8), (109 : UInt8), (112 : UInt8), (32 : UInt8), (97 : UInt8), (41 : UInt8), (41 : UInt8), (32 : UInt8), (40 : UInt8), (115 : UInt8), (101 : UInt8), (116 : UInt8), (33 :
 UInt8), (32 : UInt8), (97 : UInt8), (32 : UInt8), (98 : UInt8), (41 : UInt8), (32 : UInt8), (40 : UInt8), (115 : UInt8), (101 : UInt8), (116 : UInt8), (33 : UInt8), (32 : UInt8),
 (98 : UInt8), (32 : UInt8), (116 : UInt8), (109 : UInt8), (112 : UInt8), (41 : UInt8), (41 : UInt8), (41 : UInt8), (41 : UInt8), (41 : UInt8), (10 : UInt8)])) = AV.sv (ls baseT))
 := by kernel_rfl
theorem c_sBase   : P_c_sBase := by
  refine CallOK.ofRun wide (run_c_sBase) Try.call6 Try.func6 rfl rfl rfl ?_
  with_reducible repeat' (first | apply And.intro | exact flatI | exact flatS | exact rowLens | (intro; skip) | apply obsN | apply obsC | apply obA | apply obM | apply obB | apply svA | apply tupA | apply lcA | apply lcS | apply svC | apply liC | apply lbC | apply lsC | apply vIc | apply vBc | apply vSc | apply vLc | apply mapC)
  all_goals (try simp only [std] at *)
  all_goals (try (first | with_reducible rfl | omega | assumption | (refine (decide_eq_true ?_).symm; assumption) | (refine (decide_eq_false ?_).symm; assumption) | (refine rowGet ?_; (first | omega | (simp only [std]; omega) | grind)) | (refine getC ?_ rfl; (first | omega | (simp only [std]; omega) | grind)) | (show (_ : St) = _; rfl) | grind [snocI, snocS, rowSnoc]))
  all_goals rfl
abbrev P_c_iBase  : Prop := CallOK Try.prog 7 [] [] [] (.sv (ls baseT))
theorem run_c_iBase : aexec Try.prog (Option.getD (Func.body Try.f7) Code.skip) (entry [] [] 3) [Orc.call [Mode.rd, Mode.rd] [] (AV.sv (ls baseT)), Orc.fin []] (finK Try.prog
 [ResultVar.tmp 0] [] (AV.sv (ls baseT))) = (CallOK Try.prog 26 [] [ll (List.map strC baseL), ls nlS] [] (AV.sv (ls baseT)) ∧ ObsEq [] [] ∧ AV.sv (ls baseT) = AV.sv (ls baseT)) :=
 by kernel_rfl
theorem c_iBase   : P_c_iBase := by
  refine CallOK.ofRun wide (run_c_iBase) Try.call7 Try.func7 rfl rfl rfl ?_
  with_reducible repeat' (first | apply And.intro | exact flatI | exact flatS | exact rowLens | (intro; skip) | apply obsN | apply obsC | apply obA | apply obM | apply obB | apply svA | apply tupA | apply lcA | apply lcS | apply svC | apply liC | apply lbC | apply lsC | apply vIc | apply vBc | apply vSc | apply vLc | apply mapC | apply c_joinB)
  all_goals (try simp only [std] at *)
  all_goals (try (first | with_reducible apply c_joinB | (simp only [← List.map_append]; first | with_reducible apply c_joinB)))
  all_goals (try (first | with_reducible rfl | omega | assumption | (refine (decide_eq_true ?_).symm; assumption) | (refine (decide_eq_false ?_).symm; assumption) | (refine rowGet ?_; (first | omega | (simp only [std]; omega) | grind)) | (refine getC ?_ rfl; (first | omega | (simp only [std]; omega) | grind)) | (show (_ : St) = _; rfl) | grind [snocI, snocS, rowSnoc]))
end Go.Proofs.Ytegbadciefljcaa
end
section
namespace Go.Proofs.Ytegbadciefljcaa
open Go Go.Proofs.Ytegbadciefljcaa.Ab
set_option linter.unusedVariables false
set_option linter.unusedSimpArgs false
set_option maxHeartbeats 4000000
abbrev P_c_LBas  : Prop := CallOK Try.prog 3 [] [] [] (.sv (lb true))
theorem run_c_LBas : aexec Try.prog (Option.getD (Func.body Try.f3) Code.skip) (entry [] [] 8) [Orc.call [] [] (AV.sv (ls baseT)), Orc.call [] [] (AV.sv (ls baseT)), Orc.bool
 false, Orc.fin []] (finK Try.prog [ResultVar.tmp 0] [] (AV.sv (lb true))) = (P_c_sBase ∧ P_c_iBase ∧ false = false ∧ ObsEq [] [] ∧ AV.sv (lb true) = AV.sv (lb true)) := by
 kernel_rfl
theorem c_LBas   : P_c_LBas := by
  refine CallOK.ofRun wide (run_c_LBas) Try.call3 Try.func3 rfl rfl rfl ?_
  with_reducible repeat' (first | apply And.intro | exact flatI | exact flatS | exact rowLens | (intro; skip) | apply obsN | apply obsC | apply obA | apply obM | apply obB | apply svA | apply tupA | apply lcA | apply lcS | apply svC | apply liC | apply lbC | apply lsC | apply vIc | apply vBc | apply vSc | apply vLc | apply mapC | apply c_sBase | apply c_iBase)
  all_goals (try simp only [std] at *)
  all_goals (try (first | with_reducible apply c_sBase | with_reducible apply c_iBase | (simp only [← List.map_append]; first | with_reducible apply c_sBase | with_reducible apply c_iBase)))
  all_goals (try (first | with_reducible rfl | omega | assumption | (refine (decide_eq_true ?_).symm; assumption) | (refine (decide_eq_false ?_).symm; assumption) | (refine rowGet ?_; (first | omega | (simp only [std]; omega) | grind)) | (refine getC ?_ rfl; (first | omega | (simp only [std]; omega) | grind)) | (show (_ : St) = _; rfl) | grind [snocI, snocS, rowSnoc]))
end Go.Proofs.Ytegbadciefljcaa
end
section
namespace Go.Proofs.Ytegbadciefljcaa.fnExactBaseSource
open Go Go.ChangeShapes Go.WideShapes Go.ChangeAt Go.RowKit Go.Proofs.Ytegbadciefljcaa.Ab
set_option linter.unusedVariables false
theorem own : ownKnob Try.prog.godebug = none := by kernel_rfl
theorem laid : laidOutB Try.prog = true := by kernel_rfl
theorem rowed : mapsRowed Try.prog = true := by kernel_rfl
theorem sized : ((List.range Try.prog.types.size).all fun t => match Try.prog.underlying t with | some (.slice e) => decide (0 < Try.prog.cellsOf e) | _ => true) = true := by kernel_rfl
set_option maxRecDepth 100000 in
theorem lifted (os : Os) (started : os.Started) (H : Type) (enc : TypeId × Value → H) :
    ReturnsInHanded {} Try.checked os 3 .any (Rows.fnExactBaseSourceSpec.pre6 enc Try.prog Try.f3 Rows.fnExactBaseSourceRow.domain false) (Rows.fnExactBaseSourceSpec.post enc Try.prog Try.f3 false true false false) := by
  refine returnsInHanded_of_change (C := Try.checked) own started (by kernel_rfl) Try.func3
    (ChangeSpec.witness6 (enc := enc) (C := Try.checked) false ⟨#[], #[], []⟩ 12 (by kernel_rfl) (by kernel_rfl) (by kernel_rfl) (by kernel_rfl)) ?_
  intro W base args ds gs before hval0 hW hcnd _
  have hval : ∀ (j : Nat) t v, Try.f3.params[j]? = some t → args[j]? = some v → Value.okWide Try.prog W .any base t v := hval0
  have hW' := hW
  obtain ⟨p, q, hA0, hV, rfl, hfz, hnd⟩ := hW
  obtain ⟨rfl, rfl⟩ := trodVars_none hV
  have hA : DataW.TrodAll enc Try.prog W 0 (fun _ => true) true Try.f3.params.toList args.toList ds p := hA0
  rw [Try.params3] at hA hval
  have hA2 := hA
  clear hA0 hval0
  obtain ⟨hn, rfl, rfl⟩ := trodAll_nil hA
  obtain rfl : args = #[] := by cases args; simp_all
  refine (CallOK.kept (w := W) (vals := #[]) (c_LBas ) trivial).mono fun e W' ⟨he, hg, _⟩ => ?_
  subst he
  exact ⟨_, rfl, post_of_kept (pv := []) hW' (fun _ _ _ => (trodAll_cons_mk (shut_bool Try.underlying4 _) trodAll_mk0))
    (fun sp hsp => trodAll_kept laid rowed sized hg (by decide +kernel) hA2 fun y hy => hsp y (by simp at hy)) (fun _ _ => rfl) rfl
    hg (ok_one (by kernel_rfl) rfl (okWide_bool_mk Try.underlying4 _))⟩
set_option maxRecDepth 100000 in
set_option maxHeartbeats 0 in
theorem facts : joinedFacts Try.pinned.checked.prog 3 Try.f3 Rows.fnExactBaseSourceSpec Rows.fnExactBaseSourceRow = true := by
  delta joinedFacts
  with_reducible repeat' apply and_i
  all_goals (first | with_reducible exact enters | (rw [makes]; kernel_rfl) | (rw [lifts]; kernel_rfl) | decide +kernel)
theorem over : Rows.fnExactBaseSourceRow.holds Try.pinned (OpenSpec.ofChange Rows.fnExactBaseSourceSpec) :=
  OpenClaim.holds_of_wide 3 Try.f3 rfl rfl rfl rfl rfl rfl rfl ⟨rfl, rfl, rfl, rfl, rfl⟩ rfl rfl rfl rfl rfl (by kernel_rfl) Try.func3 facts
    (of_decide_eq_true (by kernel_rfl)) (by unfold Func.isWrapper; first | (rw [if_pos (by decide +kernel)]; kernel_rfl) | (rw [if_neg (by decide +kernel)]; exact ⟨rfl, rfl⟩))
    (fun os started H enc _ => lifted os started H enc)
theorem proved : Rows.FnExactBaseSourceSaid :=
  over
end Go.Proofs.Ytegbadciefljcaa.fnExactBaseSource
end
