/- P18.7: the changes turn the one text into the other. Part 11 of 12. -/
import Derived.RowKit
import Derived.RowKitTokens
import Derived.JoinedOf
import Derived.Stop.Joined
import Derived.SevenTiedAt
import Derived.ChangeVars
import Derived.Test.YtdcgpdgokaephaaGreatDoorCards
import Derived.Test.YtdcgpdgokaephaaGreatDoorTie
import Derived.Test.YtdcgpdgokaephaaGreatDoorRf10
set_option linter.unusedVariables false
set_option linter.unusedSimpArgs false
set_option linter.unusedSectionVars false
set_option maxRecDepth 100000
namespace Go.Proofs.YtdcgpdgokaephaaGreatDoor
open Go Go.Sl Go.ChangeShapes Go.WideShapes Go.RowKit
theorem seatOwn : ownKnob Tryz.prog.godebug = none := by kernel_rfl
theorem seatLaidOut : laidOutB Tryz.prog = true := by kernel_rfl
theorem door_met (os : Os) (args : Array Value) : laidMetH Tryz.prog laidL ((World.doorLaid Tryz.prog 600 os).forCall (λ _ _ => 0) ⟨#[], args, []⟩).memory :=
 laidMetH_of_parts3 (fuel := 8) (laidMet_of_run' 8 (by kernel_rfl) (by kernel_rfl)) (by kernel_rfl) (by kernel_rfl)
theorem play_of {H : Type} {enc : TypeId × Value -> H} {W : World} {n : Nat} {cs : List Value} {y : DataW H × List MemPlace} (hy : DataW.trod enc Tryz.prog W 0 (λ _ => true) true n 90 cs = some y) : ∃ x, cs = ePl.E x := by
 obtain ⟨xs, n, _, _, hl, hn, hf⟩ := DataW.trod_struct Tryz.underlying90 hy
 rw [show Tryz.prog.cellsOf 90 = 4 by kernel_rfl] at hl
 match cs, hl with
 | [c0, c1, c2, c3], _ =>
  have one : ∀ (i : Nat) (f : Field) (c : Value), i < xs.length -> (#[Field.mk "Kind" 3 0 false "" "" 0, Field.mk "Who" 3 1 false "" "" 8, Field.mk "At" 3 2 false "" "" 16, Field.mk "Ch" 3 3 false "" "" 24] : Array Field)[i]? = some f -> f.type = 3 -> ([c0, c1, c2, c3].drop f.offset).take 1 = [c] -> ∃ z, c = .int .i64 z := λ i f c hi h1 h2 h3 => by
   have h4 := hf i f h1
   rw [h2, show Tryz.prog.cellsOf 3 = 1 by kernel_rfl, h3, List.getElem?_eq_getElem hi] at h4
   obtain ⟨z, h5, _⟩ := DataW.trod_int Tryz.underlying3 h4
   cases h5
   exact ⟨z, rfl⟩
  have hn4 : xs.length = 4 := hn
  obtain ⟨z0, rfl⟩ := one 0 _ c0 (by omega) rfl rfl rfl
  obtain ⟨z1, rfl⟩ := one 1 _ c1 (by omega) rfl rfl rfl
  obtain ⟨z2, rfl⟩ := one 2 _ c2 (by omega) rfl rfl rfl
  obtain ⟨z3, rfl⟩ := one 3 _ c3 (by omega) rfl rfl rfl
  exact ⟨(z0, z1, z2, z3), rfl⟩
theorem case_of {H : Type} {enc : TypeId × Value -> H} {W : World} {T : TypeId} {fs : Array Field} (hT : Tryz.prog.underlying T = some (.struct fs)) (hc : Tryz.prog.cellsOf T = 4) (hfs : fs.map (λ f => (f.type, f.offset)) = #[(22, 0), (3, 1), (3, 2), (3, 3)]) {v : Value} {d : DataW H} {p : List MemPlace} (h : DataW.Trod enc Tryz.prog W 0 (λ _ => true) true T v d p) :
  ∃ pa l c xs z1 z2 z3, v = .agg #[.slice pa l c, .int .i64 z1, .int .i64 z2, .int .i64 z3] /\ RdA (Wh W) ePl pa l xs /\ l <= 9223372036854775807 := by
 obtain ⟨fuel, h⟩ := h
 obtain ⟨xs, n, _, _, hl, hn, hf⟩ := DataW.trod_struct hT h
 rw [hc] at hl
 have hv : ∃ cs : Array Value, v = .agg cs := by
  cases v <;> first | exact ⟨_, rfl⟩ | (exfalso; simp [Value.cells] at hl)
 obtain ⟨⟨cs⟩, rfl⟩ := hv
 have hl : cs.length = 4 := hl
 have hsz : fs.size = 4 := by have := congrArg Array.size hfs; simpa using this
 have hg : ∀ (i : Nat) (t o : Nat), (#[(22, 0), (3, 1), (3, 2), (3, 3)] : Array (Nat × Nat))[i]? = some (t, o) -> ∃ f, fs[i]? = some f /\ f.type = t /\ f.offset = o := λ i t o h1 => by
  have h2 := congrArg (·[i]?) hfs
  simp only [Array.getElem?_map] at h2
  rw [h1] at h2
  obtain ⟨f, h3, h4⟩ := Option.map_eq_some_iff.1 h2
  cases h4
  exact ⟨f, h3, rfl, rfl⟩
 match cs, hl with
 | [c0, c1, c2, c3], _ =>
  have one : ∀ (i : Nat) (c : Value), (#[(22, 0), (3, 1), (3, 2), (3, 3)] : Array (Nat × Nat))[i]? = some (3, i) -> ([c0, c1, c2, c3].drop i).take 1 = [c] -> ∃ z, c = .int .i64 z := λ i c h1 h3 => by
   obtain ⟨f, h5, h6, h7⟩ := hg i _ _ h1
   have hi : i < 4 := by have := (Array.getElem?_eq_some_iff.1 h5).1; omega
   have h4 := hf i f h5
   rw [h6, h7, show Tryz.prog.cellsOf 3 = 1 by kernel_rfl] at h4
   rw [show (Value.agg #[c0, c1, c2, c3]).cells.toList = [c0, c1, c2, c3] from rfl, h3, List.getElem?_eq_getElem (by omega)] at h4
   obtain ⟨z, h5, _⟩ := DataW.trod_int Tryz.underlying3 h4
   cases h5
   exact ⟨z, rfl⟩
  obtain ⟨z1, rfl⟩ := one 1 c1 rfl rfl
  obtain ⟨z2, rfl⟩ := one 2 c2 rfl rfl
  obtain ⟨z3, rfl⟩ := one 3 c3 rfl rfl
  obtain ⟨f, h5, h6, h7⟩ := hg 0 _ _ rfl
  have h4 := hf 0 f h5
  rw [h6, h7, show Tryz.prog.cellsOf 22 = 1 by kernel_rfl] at h4
  rw [show (Value.agg #[c0, .int .i64 z1, .int .i64 z2, .int .i64 z3]).cells.toList = [c0, .int .i64 z1, .int .i64 z2, .int .i64 z3] from rfl, List.drop_zero, show ([c0, .int .i64 z1, .int .i64 z2, .int .i64 z3] : List Value).take 1 = [c0] from rfl, List.getElem?_eq_getElem (by omega)] at h4
  obtain ⟨pa, l, c, ys, rfl, r0, b0⟩ := slice_ofc ePl_ok Tryz.underlying22 (by kernel_rfl) (λ n cs y hy => play_of hy) h4
  exact ⟨pa, l, c, ys, z1, z2, z3, rfl, r0, b0⟩
end Go.Proofs.YtdcgpdgokaephaaGreatDoor
