/- P18.7: the changes turn the one text into the other. Part 12 of 12. -/
import Derived.Test.YtdcgpdgokaephaaGreatDoorRf11
set_option linter.unusedVariables false
set_option linter.unusedSimpArgs false
set_option linter.unusedSectionVars false
set_option maxRecDepth 100000
namespace Go.Proofs.YtdcgpdgokaephaaGreatDoor
open Go Go.Sl Go.ChangeShapes Go.WideShapes Go.RowKit
theorem changes_lifted (os : Os) (started : os.Started) (H : Type) (enc : TypeId × Value -> H) :
  ReturnsInHanded {} Tryz.checked os 8 .any (λ w args => (Rows.revisionChangesSpec.pre enc Tryz.prog Tryz.f8 [] false w args /\ laidMetH Tryz.prog laidL w) /\ sizedMet enc Tryz.prog Tryz.f8 (OpenSpec.ofChange Rows.revisionChangesSpec) false w args)
   (Rows.revisionChangesSpec.post enc Tryz.prog Tryz.f8 false true false false) := by
 refine returnsInHanded_of_change_and (C := Tryz.checked) (X := λ w _ => laidMetH Tryz.prog laidL w) (λ _ _ _ hh h => h.of_heap hh) seatOwn started (by kernel_rfl) Tryz.func8
  (ChangeSpec.witness_shaped (enc := enc) (C := Tryz.checked) (os := os) (X := λ w _ => laidMetH Tryz.prog laidL w) false (World.doorLaid Tryz.prog 600 os) #[.agg #[.slice none 0 0, .int .i64 0, .int .i64 0, .int .i64 0]] 8 rfl (World.shaped_of_RefB (by kernel_rfl) (by kernel_rfl)) (by kernel_rfl) (by kernel_rfl) (by kernel_rfl) (door_met os _)) ?_
 intro W base args ds gs before hval0 hW _ _ hL _
 have hval : ∀ (j : Nat) t v, Tryz.f8.params[j]? = some t -> args[j]? = some v -> Value.okWide Tryz.prog W .any base t v := hval0
 have hW' := hW
 obtain ⟨p, q, hA0, hV, rfl, hfz, hnd⟩ := hW
 have hA : DataW.TrodAll enc Tryz.prog W 0 (λ _ => true) true Tryz.f8.params.toList args.toList ds p := hA0
 rw [Tryz.params8] at hA hval
 obtain ⟨v0, d0, rfl, rfl, h0⟩ := trodAll_one hA
 obtain ⟨rfl, rfl⟩ := trodVars_none hV
 obtain ⟨pa, l, c, xs, z1, z2, z3, rfl, r0, b0⟩ := case_of Tryz.underlying72 (by kernel_rfl) (by kernel_rfl) h0
 have hlt : ∀ x ∈ p ++ [], x.block < W.heap.size := λ x hx => by simpa using hW'.lt x hx
 have hcall := lawRevChanges (G := Wh W) (h := emp) (L := []) (K := λ v _ => v = .bool true) (Kp := λ _ _ => False) (c := c) (q1 := z1) (q2 := z2) (q3 := z3) (gt_of hL) (gl_of hL) (gw_of hL) (own_Wh W) r0 b0 (λ _ _ => rfl)
 refine (call_world Tryz.func8 (by kernel_rfl) (by kernel_rfl) hcall).mono λ e W' ⟨he, W'', ha, hb⟩ => ?_
 subst he
 refine ⟨_, rfl, ChangeSpec.post_alike (W'' := W'') ⟨_, _, _, [], p, [], hW', ?_, ?_, ?_, hb.frame _, λ h => by cases h⟩ ha⟩
 ·exact trodAll_mk1 (shut_bool Tryz.underlying4 true)
 ·exact trodAll_mk1 (Below.trod seatLaidOut (by kernel_rfl) (of_decide_eq_true (by kernel_rfl)) h0 hb λ x hx => hlt x (by simp [hx]))
 ·rfl
theorem changes_holds : Rows.RevisionChangesSaid :=
 OpenClaim.holds_of_wide 8 Tryz.f8 rfl rfl rfl rfl rfl rfl rfl ⟨rfl, rfl, rfl, rfl, rfl⟩ rfl rfl rfl rfl rfl (by kernel_rfl) Tryz.func8 (by kernel_rfl)
  (of_decide_eq_true (by kernel_rfl)) (by unfold Func.isWrapper; first | (rw [if_pos (by decide +kernel)]; kernel_rfl) | (rw [if_neg (by decide +kernel)]; exact ⟨rfl, rfl⟩))
  (λ os started H enc _ => changes_lifted os started H enc)
theorem changes_card : Rows.RevisionChangesCardSaid :=
 Claim7.holds_tied_plain_at .later [] [.handle, .data, .funcs, .data, .widerDeep, .widerDeep, .data] true (true, "4507de2b150eec115770872b938cfbdeecc504f32a7d0f7ce4cc3822408ba082") true
  changes_holds (λ _ h => by cases h) (by kernel_rfl) (λ _ h => by cases h) revisionChanges_row_tie rfl ⟨rfl, rfl⟩ (by kernel_rfl) rfl
  (λ f fn hf hfn => by
   obtain rfl : f = 8 := Option.some.inj ((show Tryz.prog.funcNamed "jotter/jotterlaw18.RevisionChanges" = some 8 by kernel_rfl).symm.trans hf) |>.symm
   obtain rfl : fn = Tryz.f8 := (Option.some.inj (Tryz.func8.symm.trans hfn)).symm
   exact ⟨by kernel_rfl, λ j t ht => by
    rw [Tryz.params8] at ht
    have hm : t ∈ [72] := by simpa using Array.mem_of_getElem? ht
    have hall : ([72].all λ u => !Tryz.prog.wantsStandIn u) = true := by kernel_rfl
    exact (show Tryz.prog.wantsStandIn t = false by simpa using List.all_eq_true.1 hall t hm)⟩)
  (by kernel_rfl)
end Go.Proofs.YtdcgpdgokaephaaGreatDoor
