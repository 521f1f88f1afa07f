/- How the laws' structs read. No condition. -/
import Derived.Test.YtjaahbkdpodbbaaArgs
namespace Go.Proofs.Ytjaahbkdpodbbaa
open Go Go.Proofs.Ytjaahbkdpodbbaa.Ab Go.ChangeShapes
set_option linter.unusedVariables false
section
variable {H : Type} {enc : TypeId × Value → H} {w : World} {sp : Nat → Bool} {hd : Bool}
theorem rd_outcome : ∀ (fuel : Nat) (cs : List Value) (x : DataW H × List MemPlace), DataW.trod enc Try.prog w 0 sp hd fuel 29 cs = some x → ∃ a : Outcome, All2 (Rd w (Old w)) cs (outcomeF a) := by
  intro fuel
  induction fuel using Nat.strongRecOn with | _ fuel ih =>
  intro cs x h
  obtain ⟨xs, n, rfl, _, hlen, hxs, hf⟩ := DataW.trod_struct Try.underlying29 h
  have hlen : cs.length = 5 := hlen.trans (by kernel_rfl)
  obtain ⟨y0, h0⟩ := trod_field hxs hf 0 (by rfl)
  obtain ⟨a0, r0⟩ := rd_int Try.underlying3 h0
  obtain ⟨y1, h1⟩ := trod_field hxs hf 1 (by rfl)
  obtain ⟨a1, r1⟩ := rd_string Try.underlying9 h1
  obtain ⟨y2, h2⟩ := trod_field hxs hf 2 (by rfl)
  obtain ⟨a2, r2⟩ := rd_slice (C := strC) Try.underlying27 (by rw [show Try.prog.cellsOf 9 = 1 from by kernel_rfl]; decide) (fun a => by kernel_rfl) (fun m hm cs x h => rd_string Try.underlying9 h) h2
  obtain ⟨y3, h3⟩ := trod_field hxs hf 3 (by rfl)
  obtain ⟨a3, r3⟩ := rd_int Try.underlying3 h3
  obtain ⟨y4, h4⟩ := trod_field hxs hf 4 (by rfl)
  obtain ⟨a4, r4⟩ := rd_int Try.underlying3 h4
  exact ⟨⟨a0, a1, a2, a3, a4⟩, seg r0 (seg r1 (seg r2 (seg r3 (seg r4 (segEnd hlen) (by kernel_rfl)) (by kernel_rfl)) (by kernel_rfl)) (by kernel_rfl)) (by kernel_rfl)⟩

theorem rd_datum : ∀ (fuel : Nat) (cs : List Value) (x : DataW H × List MemPlace), DataW.trod enc Try.prog w 0 sp hd fuel 40 cs = some x → ∃ a : Datum, All2 (Rd w (Old w)) cs (datumF a) := by
  intro fuel
  induction fuel using Nat.strongRecOn with | _ fuel ih =>
  intro cs x h
  obtain ⟨xs, n, rfl, _, hlen, hxs, hf⟩ := DataW.trod_struct Try.underlying40 h
  have hlen : cs.length = 4 := hlen.trans (by kernel_rfl)
  obtain ⟨y0, h0⟩ := trod_field hxs hf 0 (by rfl)
  obtain ⟨a0, r0⟩ := rd_int Try.underlying3 h0
  obtain ⟨y1, h1⟩ := trod_field hxs hf 1 (by rfl)
  obtain ⟨a1, r1⟩ := rd_int Try.underlying3 h1
  obtain ⟨y2, h2⟩ := trod_field hxs hf 2 (by rfl)
  obtain ⟨a2, r2⟩ := rd_string Try.underlying9 h2
  obtain ⟨y3, h3⟩ := trod_field hxs hf 3 (by rfl)
  obtain ⟨a3, r3⟩ := rd_slice (C := datumC) Try.underlying38 (by rw [show Try.prog.cellsOf 40 = 4 from by kernel_rfl]; decide) (fun a => by rw [datumC_eq]; kernel_rfl) (fun m hm cs x h => by obtain ⟨a, ha⟩ := ih m (by omega) cs x h; exact ⟨a, by rw [datumC_eq]; exact ha⟩) h3
  exact ⟨⟨a0, a1, a2, a3⟩, seg r0 (seg r1 (seg r2 (seg r3 (segEnd hlen) (by kernel_rfl)) (by kernel_rfl)) (by kernel_rfl)) (by kernel_rfl)⟩

theorem rd_core : ∀ (fuel : Nat) (cs : List Value) (x : DataW H × List MemPlace), DataW.trod enc Try.prog w 0 sp hd fuel 43 cs = some x → ∃ a : Core, All2 (Rd w (Old w)) cs (coreF a) := by
  intro fuel
  induction fuel using Nat.strongRecOn with | _ fuel ih =>
  intro cs x h
  obtain ⟨xs, n, rfl, _, hlen, hxs, hf⟩ := DataW.trod_struct Try.underlying43 h
  have hlen : cs.length = 8 := hlen.trans (by kernel_rfl)
  obtain ⟨y0, h0⟩ := trod_field hxs hf 0 (by rfl)
  obtain ⟨a0, r0⟩ := rd_int Try.underlying3 h0
  obtain ⟨y1, h1⟩ := trod_field hxs hf 1 (by rfl)
  obtain ⟨a1, r1⟩ := rd_int Try.underlying3 h1
  obtain ⟨y2, h2⟩ := trod_field hxs hf 2 (by rfl)
  obtain ⟨a2, r2⟩ := rd_slice (C := intC) Try.underlying37 (by rw [show Try.prog.cellsOf 3 = 1 from by kernel_rfl]; decide) (fun a => by kernel_rfl) (fun m hm cs x h => rd_int Try.underlying3 h) h2
  obtain ⟨y3, h3⟩ := trod_field hxs hf 3 (by rfl)
  obtain ⟨a3, r3⟩ := rd_datum _ _ _ h3
  obtain ⟨y4, h4⟩ := trod_field hxs hf 4 (by rfl)
  obtain ⟨a4, r4⟩ := rd_slice (C := coreC) Try.underlying41 (by rw [show Try.prog.cellsOf 43 = 8 from by kernel_rfl]; decide) (fun a => by rw [coreC_eq]; kernel_rfl) (fun m hm cs x h => by obtain ⟨a, ha⟩ := ih m (by omega) cs x h; exact ⟨a, by rw [coreC_eq]; exact ha⟩) h4
  exact ⟨⟨a0, a1, a2, a3, a4⟩, seg r0 (seg r1 (seg r2 (seg r3 (seg r4 (segEnd hlen) (by kernel_rfl)) (by kernel_rfl)) (by kernel_rfl)) (by kernel_rfl)) (by kernel_rfl)⟩
end
end Go.Proofs.Ytjaahbkdpodbbaa
