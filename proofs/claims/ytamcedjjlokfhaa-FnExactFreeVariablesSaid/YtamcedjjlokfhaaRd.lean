/- How the laws' structs read. No condition. -/
import Derived.Test.YtamcedjjlokfhaaArgs
namespace Go.Proofs.Ytamcedjjlokfhaa
open Go Go.Proofs.Ytamcedjjlokfhaa.Ab Go.ChangeShapes
set_option linter.unusedVariables false
set_option maxRecDepth 100000
section
variable {H : Type} {enc : TypeId × Value → H} {w : Go.World} {sp : Nat → Bool} {hd : Bool}
theorem rd_datum : ∀ (fuel : Nat) (cs : List Value) (x : DataW H × List MemPlace), DataW.trod enc Try.prog w 0 sp hd fuel 27 cs = some x → ∃ a : Datum, All2 (Rd w (Old w)) cs (datumF a) := by
  intro fuel
  induction fuel using Nat.strongRecOn with | _ fuel ih =>
  intro cs x h
  obtain ⟨xs, n, rfl, _, hlen, hxs, hf⟩ := DataW.trod_struct Try.underlying27 h
  have hlen : cs.length = 4 := hlen.trans (by kernel_rfl)
  obtain ⟨y0, h0⟩ := trod_field hxs hf 0 (by rfl)
  obtain ⟨a0, r0⟩ := rd_int Try.underlying3 h0
  obtain ⟨y1, h1⟩ := trod_field hxs hf 1 (by rfl)
  obtain ⟨a1, r1⟩ := rd_int Try.underlying3 h1
  obtain ⟨y2, h2⟩ := trod_field hxs hf 2 (by rfl)
  obtain ⟨a2, r2⟩ := rd_string Try.underlying9 h2
  obtain ⟨y3, h3⟩ := trod_field hxs hf 3 (by rfl)
  obtain ⟨a3, r3⟩ := rd_slice (C := datumC) Try.underlying25 (by rw [show Try.prog.cellsOf 27 = 4 from by kernel_rfl]; decide) (fun a => by rw [datumC_eq]; kernel_rfl) (fun m hm cs x h => by obtain ⟨a, ha⟩ := ih m (by omega) cs x h; exact ⟨a, by rw [datumC_eq]; exact ha⟩) h3
  exact ⟨⟨a0, a1, a2, a3⟩, seg r0 (seg r1 (seg r2 (seg r3 (segEnd hlen) (by kernel_rfl)) (by kernel_rfl)) (by kernel_rfl)) (by kernel_rfl)⟩

theorem rd_core : ∀ (fuel : Nat) (cs : List Value) (x : DataW H × List MemPlace), DataW.trod enc Try.prog w 0 sp hd fuel 30 cs = some x → ∃ a : Core, All2 (Rd w (Old w)) cs (coreF a) := by
  intro fuel
  induction fuel using Nat.strongRecOn with | _ fuel ih =>
  intro cs x h
  obtain ⟨xs, n, rfl, _, hlen, hxs, hf⟩ := DataW.trod_struct Try.underlying30 h
  have hlen : cs.length = 8 := hlen.trans (by kernel_rfl)
  obtain ⟨y0, h0⟩ := trod_field hxs hf 0 (by rfl)
  obtain ⟨a0, r0⟩ := rd_int Try.underlying3 h0
  obtain ⟨y1, h1⟩ := trod_field hxs hf 1 (by rfl)
  obtain ⟨a1, r1⟩ := rd_int Try.underlying3 h1
  obtain ⟨y2, h2⟩ := trod_field hxs hf 2 (by rfl)
  obtain ⟨a2, r2⟩ := rd_slice (C := intC) Try.underlying24 (by rw [show Try.prog.cellsOf 3 = 1 from by kernel_rfl]; decide) (fun a => by kernel_rfl) (fun m hm cs x h => rd_int Try.underlying3 h) h2
  obtain ⟨y3, h3⟩ := trod_field hxs hf 3 (by rfl)
  obtain ⟨a3, r3⟩ := rd_datum _ _ _ h3
  obtain ⟨y4, h4⟩ := trod_field hxs hf 4 (by rfl)
  obtain ⟨a4, r4⟩ := rd_slice (C := coreC) Try.underlying28 (by rw [show Try.prog.cellsOf 30 = 8 from by kernel_rfl]; decide) (fun a => by rw [coreC_eq]; kernel_rfl) (fun m hm cs x h => by obtain ⟨a, ha⟩ := ih m (by omega) cs x h; exact ⟨a, by rw [coreC_eq]; exact ha⟩) h4
  exact ⟨⟨a0, a1, a2, a3, a4⟩, seg r0 (seg r1 (seg r2 (seg r3 (seg r4 (segEnd hlen) (by kernel_rfl)) (by kernel_rfl)) (by kernel_rfl)) (by kernel_rfl)) (by kernel_rfl)⟩

theorem rd_syntax : ∀ (fuel : Nat) (cs : List Value) (x : DataW H × List MemPlace), DataW.trod enc Try.prog w 0 sp hd fuel 88 cs = some x → ∃ a : Syntax, All2 (Rd w (Old w)) cs (syntaxF a) := by
  intro fuel
  induction fuel using Nat.strongRecOn with | _ fuel ih =>
  intro cs x h
  obtain ⟨xs, n, rfl, _, hlen, hxs, hf⟩ := DataW.trod_struct Try.underlying88 h
  have hlen : cs.length = 5 := hlen.trans (by kernel_rfl)
  obtain ⟨y0, h0⟩ := trod_field hxs hf 0 (by rfl)
  obtain ⟨a0, r0⟩ := rd_int Try.underlying3 h0
  obtain ⟨y1, h1⟩ := trod_field hxs hf 1 (by rfl)
  obtain ⟨a1, r1⟩ := rd_int Try.underlying3 h1
  obtain ⟨y2, h2⟩ := trod_field hxs hf 2 (by rfl)
  obtain ⟨a2, r2⟩ := rd_string Try.underlying9 h2
  obtain ⟨y3, h3⟩ := trod_field hxs hf 3 (by rfl)
  obtain ⟨a3, r3⟩ := rd_slice (C := intC) Try.underlying24 (by rw [show Try.prog.cellsOf 3 = 1 from by kernel_rfl]; decide) (fun a => by kernel_rfl) (fun m hm cs x h => rd_int Try.underlying3 h) h3
  obtain ⟨y4, h4⟩ := trod_field hxs hf 4 (by rfl)
  obtain ⟨a4, r4⟩ := rd_slice (C := syntaxC) Try.underlying86 (by rw [show Try.prog.cellsOf 88 = 5 from by kernel_rfl]; decide) (fun a => by rw [syntaxC_eq]; kernel_rfl) (fun m hm cs x h => by obtain ⟨a, ha⟩ := ih m (by omega) cs x h; exact ⟨a, by rw [syntaxC_eq]; exact ha⟩) h4
  exact ⟨⟨a0, a1, a2, a3, a4⟩, seg r0 (seg r1 (seg r2 (seg r3 (seg r4 (segEnd hlen) (by kernel_rfl)) (by kernel_rfl)) (by kernel_rfl)) (by kernel_rfl)) (by kernel_rfl)⟩

theorem rd_binding : ∀ (fuel : Nat) (cs : List Value) (x : DataW H × List MemPlace), DataW.trod enc Try.prog w 0 sp hd fuel 250 cs = some x → ∃ a : Binding, All2 (Rd w (Old w)) cs (bindingF a) := by
  intro fuel
  induction fuel using Nat.strongRecOn with | _ fuel ih =>
  intro cs x h
  obtain ⟨xs, n, rfl, _, hlen, hxs, hf⟩ := DataW.trod_struct Try.underlying250 h
  have hlen : cs.length = 4 := hlen.trans (by kernel_rfl)
  obtain ⟨y0, h0⟩ := trod_field hxs hf 0 (by rfl)
  obtain ⟨a0, r0⟩ := rd_string Try.underlying9 h0
  obtain ⟨y1, h1⟩ := trod_field hxs hf 1 (by rfl)
  obtain ⟨a1, r1⟩ := rd_slice (C := intC) Try.underlying24 (by rw [show Try.prog.cellsOf 3 = 1 from by kernel_rfl]; decide) (fun a => by kernel_rfl) (fun m hm cs x h => rd_int Try.underlying3 h) h1
  obtain ⟨y2, h2⟩ := trod_field hxs hf 2 (by rfl)
  obtain ⟨a2, r2⟩ := rd_int Try.underlying3 h2
  obtain ⟨y3, h3⟩ := trod_field hxs hf 3 (by rfl)
  obtain ⟨a3, r3⟩ := rd_int Try.underlying3 h3
  exact ⟨⟨a0, a1, a2, a3⟩, seg r0 (seg r1 (seg r2 (seg r3 (segEnd hlen) (by kernel_rfl)) (by kernel_rfl)) (by kernel_rfl)) (by kernel_rfl)⟩

theorem rd_rules : ∀ (fuel : Nat) (cs : List Value) (x : DataW H × List MemPlace), DataW.trod enc Try.prog w 0 sp hd fuel 139 cs = some x → ∃ a : Rules, All2 (Rd w (Old w)) cs (rulesF a) := by
  intro fuel
  induction fuel using Nat.strongRecOn with | _ fuel ih =>
  intro cs x h
  obtain ⟨xs, n, rfl, _, hlen, hxs, hf⟩ := DataW.trod_struct Try.underlying139 h
  have hlen : cs.length = 3 := hlen.trans (by kernel_rfl)
  obtain ⟨y0, h0⟩ := trod_field hxs hf 0 (by rfl)
  obtain ⟨a0, r0⟩ := rd_slice (C := syntaxC) Try.underlying86 (by rw [show Try.prog.cellsOf 88 = 5 from by kernel_rfl]; decide) (fun a => by rw [syntaxC_eq]; kernel_rfl) (fun m hm cs x h => by obtain ⟨a, ha⟩ := rd_syntax m cs x h; exact ⟨a, by rw [syntaxC_eq]; exact ha⟩) h0
  obtain ⟨y1, h1⟩ := trod_field hxs hf 1 (by rfl)
  obtain ⟨a1, r1⟩ := rd_slice (C := syntaxC) Try.underlying86 (by rw [show Try.prog.cellsOf 88 = 5 from by kernel_rfl]; decide) (fun a => by rw [syntaxC_eq]; kernel_rfl) (fun m hm cs x h => by obtain ⟨a, ha⟩ := rd_syntax m cs x h; exact ⟨a, by rw [syntaxC_eq]; exact ha⟩) h1
  obtain ⟨y2, h2⟩ := trod_field hxs hf 2 (by rfl)
  obtain ⟨a2, r2⟩ := rd_slice (C := syntaxC) Try.underlying86 (by rw [show Try.prog.cellsOf 88 = 5 from by kernel_rfl]; decide) (fun a => by rw [syntaxC_eq]; kernel_rfl) (fun m hm cs x h => by obtain ⟨a, ha⟩ := rd_syntax m cs x h; exact ⟨a, by rw [syntaxC_eq]; exact ha⟩) h2
  exact ⟨⟨a0, a1, a2⟩, seg r0 (seg r1 (seg r2 (segEnd hlen) (by kernel_rfl)) (by kernel_rfl)) (by kernel_rfl)⟩

theorem rd_capture : ∀ (fuel : Nat) (cs : List Value) (x : DataW H × List MemPlace), DataW.trod enc Try.prog w 0 sp hd fuel 196 cs = some x → ∃ a : Capture, All2 (Rd w (Old w)) cs (captureF a) := by
  intro fuel
  induction fuel using Nat.strongRecOn with | _ fuel ih =>
  intro cs x h
  obtain ⟨xs, n, rfl, _, hlen, hxs, hf⟩ := DataW.trod_struct Try.underlying196 h
  have hlen : cs.length = 12 := hlen.trans (by kernel_rfl)
  obtain ⟨y0, h0⟩ := trod_field hxs hf 0 (by rfl)
  obtain ⟨a0, r0⟩ := rd_syntax _ _ _ h0
  obtain ⟨y1, h1⟩ := trod_field hxs hf 1 (by rfl)
  obtain ⟨a1, r1⟩ := rd_int Try.underlying3 h1
  obtain ⟨y2, h2⟩ := trod_field hxs hf 2 (by rfl)
  obtain ⟨a2, r2⟩ := rd_syntax _ _ _ h2
  obtain ⟨y3, h3⟩ := trod_field hxs hf 3 (by rfl)
  obtain ⟨a3, r3⟩ := rd_slice (C := captureC) Try.underlying85 (by rw [show Try.prog.cellsOf 196 = 12 from by kernel_rfl]; decide) (fun a => by rw [captureC_eq]; kernel_rfl) (fun m hm cs x h => by obtain ⟨a, ha⟩ := ih m (by omega) cs x h; exact ⟨a, by rw [captureC_eq]; exact ha⟩) h3
  exact ⟨⟨a0, a1, a2, a3⟩, seg r0 (seg r1 (seg r2 (seg r3 (segEnd hlen) (by kernel_rfl)) (by kernel_rfl)) (by kernel_rfl)) (by kernel_rfl)⟩

theorem rd_expander : ∀ (fuel : Nat) (cs : List Value) (x : DataW H × List MemPlace), DataW.trod enc Try.prog w 0 sp hd fuel 73 cs = some x → ∃ a : Expander, All2 (Rd w (Old w)) cs (expanderF a) := by
  intro fuel
  induction fuel using Nat.strongRecOn with | _ fuel ih =>
  intro cs x h
  obtain ⟨xs, n, rfl, _, hlen, hxs, hf⟩ := DataW.trod_struct Try.underlying73 h
  have hlen : cs.length = 5 := hlen.trans (by kernel_rfl)
  obtain ⟨y0, h0⟩ := trod_field hxs hf 0 (by rfl)
  obtain ⟨a0, r0⟩ := rd_slice (C := bindingC) Try.underlying70 (by rw [show Try.prog.cellsOf 250 = 4 from by kernel_rfl]; decide) (fun a => by rw [bindingC_eq]; kernel_rfl) (fun m hm cs x h => by obtain ⟨a, ha⟩ := rd_binding m cs x h; exact ⟨a, by rw [bindingC_eq]; exact ha⟩) h0
  obtain ⟨y1, h1⟩ := trod_field hxs hf 1 (by rfl)
  obtain ⟨a1, r1⟩ := rd_slice (C := rulesC) Try.underlying71 (by rw [show Try.prog.cellsOf 139 = 3 from by kernel_rfl]; decide) (fun a => by rw [rulesC_eq]; kernel_rfl) (fun m hm cs x h => by obtain ⟨a, ha⟩ := rd_rules m cs x h; exact ⟨a, by rw [rulesC_eq]; exact ha⟩) h1
  obtain ⟨y2, h2⟩ := trod_field hxs hf 2 (by rfl)
  obtain ⟨a2, r2⟩ := rd_int Try.underlying3 h2
  obtain ⟨y3, h3⟩ := trod_field hxs hf 3 (by rfl)
  obtain ⟨a3, r3⟩ := rd_int Try.underlying3 h3
  obtain ⟨y4, h4⟩ := trod_field hxs hf 4 (by rfl)
  obtain ⟨a4, r4⟩ := rd_int Try.underlying3 h4
  exact ⟨⟨a0, a1, a2, a3, a4⟩, seg r0 (seg r1 (seg r2 (seg r3 (seg r4 (segEnd hlen) (by kernel_rfl)) (by kernel_rfl)) (by kernel_rfl)) (by kernel_rfl)) (by kernel_rfl)⟩

theorem rd_module : ∀ (fuel : Nat) (cs : List Value) (x : DataW H × List MemPlace), DataW.trod enc Try.prog w 0 sp hd fuel 62 cs = some x → ∃ a : Module, All2 (Rd w (Old w)) cs (moduleF a) := by
  intro fuel
  induction fuel using Nat.strongRecOn with | _ fuel ih =>
  intro cs x h
  obtain ⟨xs, n, rfl, _, hlen, hxs, hf⟩ := DataW.trod_struct Try.underlying62 h
  have hlen : cs.length = 4 := hlen.trans (by kernel_rfl)
  obtain ⟨y0, h0⟩ := trod_field hxs hf 0 (by rfl)
  obtain ⟨a0, r0⟩ := rd_string Try.underlying9 h0
  obtain ⟨y1, h1⟩ := trod_field hxs hf 1 (by rfl)
  obtain ⟨a1, r1⟩ := rd_slice (C := strC) Try.underlying60 (by rw [show Try.prog.cellsOf 9 = 1 from by kernel_rfl]; decide) (fun a => by kernel_rfl) (fun m hm cs x h => rd_string Try.underlying9 h) h1
  obtain ⟨y2, h2⟩ := trod_field hxs hf 2 (by rfl)
  obtain ⟨a2, r2⟩ := rd_slice (C := strC) Try.underlying60 (by rw [show Try.prog.cellsOf 9 = 1 from by kernel_rfl]; decide) (fun a => by kernel_rfl) (fun m hm cs x h => rd_string Try.underlying9 h) h2
  obtain ⟨y3, h3⟩ := trod_field hxs hf 3 (by rfl)
  obtain ⟨a3, r3⟩ := rd_slice (C := datumC) Try.underlying25 (by rw [show Try.prog.cellsOf 27 = 4 from by kernel_rfl]; decide) (fun a => by rw [datumC_eq]; kernel_rfl) (fun m hm cs x h => by obtain ⟨a, ha⟩ := rd_datum m cs x h; exact ⟨a, by rw [datumC_eq]; exact ha⟩) h3
  exact ⟨⟨a0, a1, a2, a3⟩, seg r0 (seg r1 (seg r2 (seg r3 (segEnd hlen) (by kernel_rfl)) (by kernel_rfl)) (by kernel_rfl)) (by kernel_rfl)⟩

theorem rd_export : ∀ (fuel : Nat) (cs : List Value) (x : DataW H × List MemPlace), DataW.trod enc Try.prog w 0 sp hd fuel 258 cs = some x → ∃ a : Export, All2 (Rd w (Old w)) cs (exportF a) := by
  intro fuel
  induction fuel using Nat.strongRecOn with | _ fuel ih =>
  intro cs x h
  obtain ⟨xs, n, rfl, _, hlen, hxs, hf⟩ := DataW.trod_struct Try.underlying258 h
  have hlen : cs.length = 4 := hlen.trans (by kernel_rfl)
  obtain ⟨y0, h0⟩ := trod_field hxs hf 0 (by rfl)
  obtain ⟨a0, r0⟩ := rd_string Try.underlying9 h0
  obtain ⟨y1, h1⟩ := trod_field hxs hf 1 (by rfl)
  obtain ⟨a1, r1⟩ := rd_string Try.underlying9 h1
  obtain ⟨y2, h2⟩ := trod_field hxs hf 2 (by rfl)
  obtain ⟨a2, r2⟩ := rd_int Try.underlying3 h2
  obtain ⟨y3, h3⟩ := trod_field hxs hf 3 (by rfl)
  obtain ⟨a3, r3⟩ := rd_int Try.underlying3 h3
  exact ⟨⟨a0, a1, a2, a3⟩, seg r0 (seg r1 (seg r2 (seg r3 (segEnd hlen) (by kernel_rfl)) (by kernel_rfl)) (by kernel_rfl)) (by kernel_rfl)⟩

theorem rd_unit : ∀ (fuel : Nat) (cs : List Value) (x : DataW H × List MemPlace), DataW.trod enc Try.prog w 0 sp hd fuel 120 cs = some x → ∃ a : Unit, All2 (Rd w (Old w)) cs (unitF a) := by
  intro fuel
  induction fuel using Nat.strongRecOn with | _ fuel ih =>
  intro cs x h
  obtain ⟨xs, n, rfl, _, hlen, hxs, hf⟩ := DataW.trod_struct Try.underlying120 h
  have hlen : cs.length = 10 := hlen.trans (by kernel_rfl)
  obtain ⟨y0, h0⟩ := trod_field hxs hf 0 (by rfl)
  obtain ⟨a0, r0⟩ := rd_string Try.underlying9 h0
  obtain ⟨y1, h1⟩ := trod_field hxs hf 1 (by rfl)
  obtain ⟨a1, r1⟩ := rd_slice (C := intC) Try.underlying24 (by rw [show Try.prog.cellsOf 3 = 1 from by kernel_rfl]; decide) (fun a => by kernel_rfl) (fun m hm cs x h => rd_int Try.underlying3 h) h1
  obtain ⟨y2, h2⟩ := trod_field hxs hf 2 (by rfl)
  obtain ⟨a2, r2⟩ := rd_core _ _ _ h2
  exact ⟨⟨a0, a1, a2⟩, seg r0 (seg r1 (seg r2 (segEnd hlen) (by kernel_rfl)) (by kernel_rfl)) (by kernel_rfl)⟩

theorem rd_world : ∀ (fuel : Nat) (cs : List Value) (x : DataW H × List MemPlace), DataW.trod enc Try.prog w 0 sp hd fuel 106 cs = some x → ∃ a : World, All2 (Rd w (Old w)) cs (worldF a) := by
  intro fuel
  induction fuel using Nat.strongRecOn with | _ fuel ih =>
  intro cs x h
  obtain ⟨xs, n, rfl, _, hlen, hxs, hf⟩ := DataW.trod_struct Try.underlying106 h
  have hlen : cs.length = 7 := hlen.trans (by kernel_rfl)
  obtain ⟨y0, h0⟩ := trod_field hxs hf 0 (by rfl)
  obtain ⟨a0, r0⟩ := rd_expander _ _ _ h0
  obtain ⟨y1, h1⟩ := trod_field hxs hf 1 (by rfl)
  obtain ⟨a1, r1⟩ := rd_slice (C := unitC) Try.underlying52 (by rw [show Try.prog.cellsOf 120 = 10 from by kernel_rfl]; decide) (fun a => by rw [unitC_eq]; kernel_rfl) (fun m hm cs x h => by obtain ⟨a, ha⟩ := rd_unit m cs x h; exact ⟨a, by rw [unitC_eq]; exact ha⟩) h1
  obtain ⟨y2, h2⟩ := trod_field hxs hf 2 (by rfl)
  obtain ⟨a2, r2⟩ := rd_slice (C := exportC) Try.underlying104 (by rw [show Try.prog.cellsOf 258 = 4 from by kernel_rfl]; decide) (fun a => by rw [exportC_eq]; kernel_rfl) (fun m hm cs x h => by obtain ⟨a, ha⟩ := rd_export m cs x h; exact ⟨a, by rw [exportC_eq]; exact ha⟩) h2
  exact ⟨⟨a0, a1, a2⟩, seg r0 (seg r1 (seg r2 (segEnd hlen) (by kernel_rfl)) (by kernel_rfl)) (by kernel_rfl)⟩
end
end Go.Proofs.Ytamcedjjlokfhaa
