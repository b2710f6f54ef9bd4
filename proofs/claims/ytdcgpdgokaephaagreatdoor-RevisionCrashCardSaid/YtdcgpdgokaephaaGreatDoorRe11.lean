/- RevisionCrash: of any first bytes of a run's disk, and of these with one byte changed, the past is a beginning of the past, as long as whole unspoilt items reach, with an error where something was cut; of every run; the seven listed package variables hold what the text lays. Part 11 of 11. -/
import Derived.Test.YtdcgpdgokaephaaGreatDoorRe10
set_option linter.unusedVariables false
set_option linter.unusedSimpArgs false
set_option linter.unusedSectionVars false
set_option maxRecDepth 100000
namespace Go.Proofs.YtdcgpdgokaephaaGreatDoor
open Go Go.Sl Go.ChangeShapes Go.WideShapes Go.RowKit
theorem crash_lifted (os : Os) (started : os.Started) (H : Type) (enc : TypeId × Value → H) :
  ReturnsInHanded {} Tryz.checked os 4 .any (fun w args => (Rows.revisionCrashSpec.pre enc Tryz.prog Tryz.f4 [] false w args ∧ laidMetH Tryz.prog laidL w) ∧ sizedMet enc Tryz.prog Tryz.f4 (OpenSpec.ofChange Rows.revisionCrashSpec) false w args)
   (Rows.revisionCrashSpec.post enc Tryz.prog Tryz.f4 false true false false) := by
 refine returnsInHanded_of_change_and (C := Tryz.checked) (X := fun w _ => laidMetH Tryz.prog laidL w) (fun _ _ _ hh h => h.of_heap hh) seatOwn started (by kernel_rfl) Tryz.func4
  (ChangeSpec.witness_shaped (enc := enc) (C := Tryz.checked) (os := os) (X := fun w _ => laidMetH Tryz.prog laidL w) false (World.doorLaid Tryz.prog 600 os) #[.agg #[.slice none 0 0, .int .i64 0, .int .i64 0, .int .i64 0]] 8 rfl (World.shaped_of_RefB (by kernel_rfl) (by kernel_rfl)) (by kernel_rfl) (by kernel_rfl) (by kernel_rfl) (door_met os _)) ?_
 intro W base args ds gs before hval0 hW _ _ hL _
 have hval : ∀ (j : Nat) t v, Tryz.f4.params[j]? = some t → args[j]? = some v → Value.okWide Tryz.prog W .any base t v := hval0
 have hW' := hW
 obtain ⟨p, q, hA0, hV, rfl, hfz, hnd⟩ := hW
 have hA : DataW.TrodAll enc Tryz.prog W 0 (fun _ => true) true Tryz.f4.params.toList args.toList ds p := hA0
 rw [Tryz.params4] at hA hval
 obtain ⟨v0, d0, rfl, rfl, h0⟩ := trodAll_one hA
 obtain ⟨rfl, rfl⟩ := trodVars_none hV
 obtain ⟨pa, l, c, xs, z1, z2, z3, rfl, r0, b0⟩ := case_of Tryz.underlying48 (by kernel_rfl) (by kernel_rfl) h0
 have hlt : ∀ x ∈ p ++ [], x.block < W.heap.size := fun x hx => by simpa using hW'.lt x hx
 have hcall := lawRevCrash (G := Wh W) (h := emp) (L := []) (K := fun v _ => v = .bool true) (Kp := fun _ _ => False) (c := c) (q1 := z1) (q2 := z2) (q3 := z3) (gt_of hL) (gl_of hL) (gw_of hL) (own_Wh W) r0 b0 (fun _ _ => rfl)
 refine (call_world Tryz.func4 (by kernel_rfl) (by kernel_rfl) hcall).mono fun e W' ⟨he, W'', ha, hb⟩ => ?_
 subst he
 refine ⟨_, rfl, ChangeSpec.post_alike (W'' := W'') ⟨_, _, _, [], p, [], hW', ?_, ?_, ?_, hb.frame _, fun h => by cases h⟩ ha⟩
 ·exact trodAll_mk1 (shut_bool Tryz.underlying4 true)
 ·exact trodAll_mk1 (Below.trod seatLaidOut (by kernel_rfl) (of_decide_eq_true (by kernel_rfl)) h0 hb fun x hx => hlt x (by simp [hx]))
 ·rfl
theorem crash_holds : Rows.RevisionCrashSaid :=
 OpenClaim.holds_of_wide 4 Tryz.f4 rfl rfl rfl rfl rfl rfl rfl ⟨rfl, rfl, rfl, rfl, rfl⟩ rfl rfl rfl rfl rfl (by kernel_rfl) Tryz.func4 (by kernel_rfl)
  (of_decide_eq_true (by kernel_rfl)) (by unfold Func.isWrapper; first | (rw [if_pos (by decide +kernel)]; kernel_rfl) | (rw [if_neg (by decide +kernel)]; exact ⟨rfl, rfl⟩))
  (fun os started H enc _ => crash_lifted os started H enc)
theorem crash_card : Rows.RevisionCrashCardSaid :=
 Claim7.holds_tied_plain_at .later [] [.handle, .data, .funcs, .data, .widerDeep, .widerDeep, .data] true (true, "4507de2b150eec115770872b938cfbdeecc504f32a7d0f7ce4cc3822408ba082") true
  crash_holds (fun _ h => by cases h) (by kernel_rfl) (fun _ h => by cases h) revisionCrash_row_tie rfl ⟨rfl, rfl⟩ (by kernel_rfl) rfl
  (fun f fn hf hfn => by
   obtain rfl : f = 4 := Option.some.inj ((show Tryz.prog.funcNamed "jotter/jotterlaw18.RevisionCrash" = some 4 by kernel_rfl).symm.trans hf) |>.symm
   obtain rfl : fn = Tryz.f4 := (Option.some.inj (Tryz.func4.symm.trans hfn)).symm
   exact ⟨by kernel_rfl, fun j t ht => by
    rw [Tryz.params4] at ht
    have hm : t ∈ [48] := by simpa using Array.mem_of_getElem? ht
    have hall : ([48].all fun u => !Tryz.prog.wantsStandIn u) = true := by kernel_rfl
    exact (show Tryz.prog.wantsStandIn t = false by simpa using List.all_eq_true.1 hall t hm)⟩)
  (by kernel_rfl)
end Go.Proofs.YtdcgpdgokaephaaGreatDoor
