import Derived.Test.YtibgigffedejpaaGreatDoorWj
import Derived.Test.YtibgigffedejpaaGreatDoorWi
import Derived.Test.YtibgigffedejpaaGreatDoorCards
import Derived.Test.YtibgigffedejpaaGreatDoorTie
import Derived.WalkKit
import Derived.ProofKit
import Derived.OpenShut
import Derived.Deep.DeepHandedRow
import Derived.Lay
import Derived.PinnedBridge
import Derived.Carry
import Derived.Lib.LaidU8
import Derived.Shelf.Vars
import Derived.ChangeSlices
namespace Go.Proofs.YtibgigffedejpaaGreatDoor
set_option linter.unusedVariables false
set_option linter.unusedSimpArgs false
open Go.ChangeShapes Go.WideShapes Go.ChangeAt Go.RowKit
set_option linter.unusedVariables false

theorem own : ownKnob Tryz.prog.godebug = none := by kernel_rfl
theorem laidOut : laidOutB Tryz.prog = true := by kernel_rfl
theorem accept_eq : (Rows.laid_unicode_utf8_acceptRanges : DataW Unit) = Lib.acceptData := by kernel_rfl
theorem u8x : U8Extra Tryz.prog Tryz.lays260_ren := ⟨by kernel_rfl, by kernel_rfl, by kernel_rfl, by kernel_rfl, by kernel_rfl, by kernel_rfl, by kernel_rfl⟩
def laidL : List (String × DataW Unit) := Rows.sdlIgnoresRow.laid
theorem plainL : (laidL.all fun x => x.2.handleName?.isNone) = true := by kernel_rfl
theorem g7 : Tryz.prog.globalNamed "math/bits.deBruijn64tab" = some 7 := by kernel_rfl
/-- What the row's list and the world's shape give. -/
theorem env_of {W : World} (hL : laidMetH Tryz.prog laidL W) (hS : W.ShapedOpen Tryz.prog) : Env W := by
  rw [MakeChecks.laidMetH_plain _ _ _ plainL] at hL
  have r1 : Lib.VarReads Tryz.prog W "unicode/utf8.first" Rows.laid_unicode_utf8_first := Lib.laidMet.reads hL (by unfold laidL Rows.sdlIgnoresRow; simp)
  have r2 : Lib.VarReads Tryz.prog W "unicode/utf8.acceptRanges" Rows.laid_unicode_utf8_acceptRanges := Lib.laidMet.reads hL (by unfold laidL Rows.sdlIgnoresRow; simp)
  have r3 : Lib.VarReads Tryz.prog W "math/bits.deBruijn64tab" Rows.laid_math_bits_deBruijn64tab := Lib.laidMet.reads hL (by unfold laidL Rows.sdlIgnoresRow; simp)
  have e1 : Rows.laid_unicode_utf8_first = Lib.firstData := Pinned.utf8First_eq
  rw [e1] at r1
  rw [accept_eq] at r2
  refine ⟨utf8Tabs_of_reads Tryz.lays260 u8x r1 r2, Tryz.laysM219.s1_3 W hS, ?_⟩
  obtain ⟨g, t, cs, fuel, p, hg, hty, hvar, hd⟩ := r3
  obtain rfl := Option.some.inj (g7.symm.trans hg)
  unfold World.var? at hvar
  rw [g7] at hvar
  simp only [Option.bind_some] at hvar
  cases hh : W.heap[7]? with
  | none => rw [hh] at hvar; cases hvar
  | some o => exact (Array.getElem?_eq_some_iff.1 hh).1
theorem cells3 : Tryz.prog.cellsOf 3 = 1 := by kernel_rfl
/-- A row of numbers, as the argument's reading gives it. -/
theorem ints_row {H : Type} {enc : TypeId × Value → H} {W : World} {v : Value} {d : DataW H} {p : List MemPlace} (hv : ∃ a len cap, v = .slice a len cap) (h : DataW.Trod enc Tryz.prog W 0 (fun _ => true) true 36 v d p) :
    ∃ zs : List Int, RowR W v 1 zs.length (zs.map (Value.int .i64)) := by
  obtain ⟨a0, len, cap, rfl⟩ := hv
  obtain ⟨fuel, hf⟩ := h
  rcases open_ints Tryz.underlying36 Tryz.underlying3 cells3 hf with ⟨hcs, hx⟩ | ⟨a, len', cap', zs, hcs, _, hl, hm, hz, hx, hcell, hwz⟩
  · simp [Value.cells] at hcs
    obtain ⟨rfl, rfl, rfl⟩ := hcs
    exact ⟨[], none, 0, rfl, rfl, fun j u hj => by simp at hj⟩
  · simp [Value.cells] at hcs
    obtain ⟨rfl, rfl, rfl⟩ := hcs
    simp only [if_true] at hz
    have hlen : (zs.take len).length = len := by simp; omega
    refine ⟨zs.take len, some a, cap, by rw [hlen], by simp, fun j u hj => ?_⟩
    have hjl : j < len := by
      have := (List.getElem?_eq_some_iff.1 hj).1
      simp at this; omega
    have hu : u = .int .i64 (zs.getD j 0) := by
      rw [List.getElem?_map, List.getElem?_take, if_pos hjl, List.getElem?_eq_getElem (by omega)] at hj
      simp only [Option.map_some, Option.some.injEq] at hj
      rw [← hj]; simp [List.getD, List.getElem?_eq_getElem (show j < zs.length by omega)]
    have hsp : a.spot = none := World.cell?_spot (a := a) (by have := hcell 0 (by omega); simpa [Addr.add] using this)
    have hc := hcell j (by omega)
    obtain ⟨b, off, sp⟩ := a
    simp only at hsp
    subst hsp
    refine ⟨b, off, rfl, ?_⟩
    rw [hu, ← hc]
    unfold Addr.add
    split
    · rename_i h0; subst h0; rfl
    · rfl

/-! ### A world for the witness -/
theorem wit_shaped (os : Os) (args : Array Value) : ((World.laidAll Tryz.prog os laidL).forCall (fun _ _ => 0) ⟨#[], args, []⟩).Shaped Tryz.prog :=
  World.shaped_of_ZipB (by kernel_rfl) (by kernel_rfl)
theorem wit_laid (os : Os) (args : Array Value) : laidMetH Tryz.prog laidL ((World.laidAll Tryz.prog os laidL).forCall (fun _ _ => 0) ⟨#[], args, []⟩).memory := by
  rw [MakeChecks.laidMetH_plain _ _ _ plainL]; exact laidMet_laidAll _ (by kernel_rfl) (by kernel_rfl)
end Go.Proofs.YtibgigffedejpaaGreatDoor
