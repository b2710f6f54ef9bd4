/- RevisionTexts: the past that is read off a run's disk is the run's past; of every list of plays and of every list of odd numbers; the seven listed package variables hold what the text lays. Part 10 of 11. -/
import Derived.RowKit
import Derived.RowKitTokens
import Derived.JoinedOf
import Derived.Stop.Joined
import Derived.SevenTiedAt
import Derived.ChangeVars
import Derived.Test.YtdcgpdgokaephaaGreatDoorCards
import Derived.Test.YtdcgpdgokaephaaGreatDoorTie
import Derived.Test.YtdcgpdgokaephaaGreatDoorRa9
set_option linter.unusedVariables false
set_option linter.unusedSimpArgs false
set_option linter.unusedSectionVars false
set_option maxRecDepth 100000
namespace Go.Proofs.YtdcgpdgokaephaaGreatDoor
open Go Go.Sl Go.ChangeShapes Go.WideShapes Go.RowKit
theorem seatOwn : ownKnob Tryz.prog.godebug = none := by kernel_rfl
theorem seatLaidOut : laidOutB Tryz.prog = true := by kernel_rfl
/-- The door's own heap meets the condition. -/
theorem door_met (os : Os) (args : Array Value) : laidMetH Tryz.prog laidL ((World.doorLaid Tryz.prog 600 os).forCall (fun _ _ => 0) ⟨#[], args, []⟩).memory :=
  laidMetH_of_parts3 (fuel := 8) (laidMet_of_run' 8 (by kernel_rfl) (by kernel_rfl)) (by kernel_rfl) (by kernel_rfl)
theorem plays_of {H : Type} {enc : TypeId × Value → H} {W : World} {v : Value} {d : DataW H} {p : List MemPlace} {r : Reach} {b : Nat} (hv : Value.okWide Tryz.prog W r b 22 v) (h : DataW.Trod enc Tryz.prog W 0 (fun _ => true) true 22 v d p) :
    ∃ pa l c xs, v = .slice pa l c ∧ RdA (Wh W) ePl pa l xs ∧ l ≤ 9223372036854775807 := by
  refine slice_of ePl_ok Tryz.underlying22 (by kernel_rfl) (fun n cs y hy => ?_) hv h
  obtain ⟨xs, n, _, _, hl, hn, hf⟩ := DataW.trod_struct Tryz.underlying90 hy
  rw [show Tryz.prog.cellsOf 90 = 4 by kernel_rfl] at hl
  match cs, hl with
  | [c0, c1, c2, c3], _ =>
    have one : ∀ (i : Nat) (f : Field) (c : Value), i < xs.length → (#[Field.mk "Kind" 3 0 false "" "" 0, Field.mk "Who" 3 1 false "" "" 8, Field.mk "At" 3 2 false "" "" 16, Field.mk "Ch" 3 3 false "" "" 24] : Array Field)[i]? = some f → f.type = 3 → ([c0, c1, c2, c3].drop f.offset).take 1 = [c] → ∃ z, c = .int .i64 z := fun i f c hi h1 h2 h3 => by
      have h4 := hf i f h1
      rw [h2, show Tryz.prog.cellsOf 3 = 1 by kernel_rfl, h3, List.getElem?_eq_getElem hi] at h4
      obtain ⟨z, h5, _⟩ := DataW.trod_int Tryz.underlying3 h4
      cases h5
      exact ⟨z, rfl⟩
    have hn4 : xs.length = 4 := hn
    obtain ⟨z0, rfl⟩ := one 0 _ c0 (by omega) rfl rfl rfl
    obtain ⟨z1, rfl⟩ := one 1 _ c1 (by omega) rfl rfl rfl
    obtain ⟨z2, rfl⟩ := one 2 _ c2 (by omega) rfl rfl rfl
    obtain ⟨z3, rfl⟩ := one 3 _ c3 (by omega) rfl rfl rfl
    exact ⟨(z0, z1, z2, z3), rfl⟩
theorem ints_of {H : Type} {enc : TypeId × Value → H} {W : World} {v : Value} {d : DataW H} {p : List MemPlace} {r : Reach} {b : Nat} (hv : Value.okWide Tryz.prog W r b 23 v) (h : DataW.Trod enc Tryz.prog W 0 (fun _ => true) true 23 v d p) :
    ∃ pa l c xs, v = .slice pa l c ∧ RdA (Wh W) eI pa l xs ∧ l ≤ 9223372036854775807 := by
  refine slice_of eI_ok Tryz.underlying23 (by kernel_rfl) (fun n cs y hy => ?_) hv h
  obtain ⟨z, h5, _⟩ := DataW.trod_int Tryz.underlying3 hy
  exact ⟨z, h5⟩
end Go.Proofs.YtdcgpdgokaephaaGreatDoor
