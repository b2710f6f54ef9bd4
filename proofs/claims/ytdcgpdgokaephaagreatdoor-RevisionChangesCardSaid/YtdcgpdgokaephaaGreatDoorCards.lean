/-
  DERIVED. GIVEN WITH THE SEED: THE CARDS: each row of YtdcgpdgokaephaaGreatDoorRows.lean that lists a variable, with what it lists TIED to the program's text (the seventh form; the later family's looks); each row that meets fmt, with fmt's text TOLD by the authors' own Lean function (tested against real Go, not proved from fmt's source: count such statements apart). THE CARD IS WHAT COUNTS. Prove the row's statement (the work); the ties are given (YtdcgpdgokaephaaGreatDoorTie.lean); close each card by the builder's one call (the guide's Derived/Test/ToyasCard.lean, 'card_holds'). Laid BY PROGRAM, IN A SANDBOX (cutbox-door.mjs). By AI agents, Wed Nov 11 2026. No macro, syntax, notation, axiom, sorry.
-/
import Derived.Test.YtdcgpdgokaephaaGreatDoorRows
import GoSem.ClaimSeven
namespace Go.Proofs.YtdcgpdgokaephaaGreatDoor
namespace Rows

/-- THE TIED CARD OF 'jotterlaw18.RevisionTexts'. -/
def revisionTextsCard : Claim7 := { stood := { row := revisionTextsRow, standIns := [], harness := (true, "4507de2b150eec115770872b938cfbdeecc504f32a7d0f7ce4cc3822408ba082"), looks := true }, kinds := [], alts := [], laidByText := true, laidKinds := [.handle, .data, .funcs, .data, .widerDeep, .widerDeep, .data], laidTests := true, laidLooks := .later }
def RevisionTextsCardSaid : Prop := Claim7.holds Tryz.pinned (.plain (OpenSpec.ofChange revisionTextsSpec)) revisionTextsCard

/-- THE TIED CARD OF 'jotterlaw18.RevisionCrash'. -/
def revisionCrashCard : Claim7 := { stood := { row := revisionCrashRow, standIns := [], harness := (true, "4507de2b150eec115770872b938cfbdeecc504f32a7d0f7ce4cc3822408ba082"), looks := true }, kinds := [], alts := [], laidByText := true, laidKinds := [.handle, .data, .funcs, .data, .widerDeep, .widerDeep, .data], laidTests := true, laidLooks := .later }
def RevisionCrashCardSaid : Prop := Claim7.holds Tryz.pinned (.plain (OpenSpec.ofChange revisionCrashSpec)) revisionCrashCard

/-- THE TIED CARD OF 'jotterlaw18.RevisionBlame'. -/
def revisionBlameCard : Claim7 := { stood := { row := revisionBlameRow, standIns := [], harness := (true, "4507de2b150eec115770872b938cfbdeecc504f32a7d0f7ce4cc3822408ba082"), looks := true }, kinds := [], alts := [], laidByText := true, laidKinds := [.handle, .data, .funcs, .data, .widerDeep, .widerDeep, .data], laidTests := true, laidLooks := .later }
def RevisionBlameCardSaid : Prop := Claim7.holds Tryz.pinned (.plain (OpenSpec.ofChange revisionBlameSpec)) revisionBlameCard

/-- THE TIED CARD OF 'jotterlaw18.RevisionLife'. -/
def revisionLifeCard : Claim7 := { stood := { row := revisionLifeRow, standIns := [], harness := (true, "4507de2b150eec115770872b938cfbdeecc504f32a7d0f7ce4cc3822408ba082"), looks := true }, kinds := [], alts := [], laidByText := true, laidKinds := [.handle, .data, .funcs, .data, .widerDeep, .widerDeep, .data], laidTests := true, laidLooks := .later }
def RevisionLifeCardSaid : Prop := Claim7.holds Tryz.pinned (.plain (OpenSpec.ofChange revisionLifeSpec)) revisionLifeCard

/-- THE TIED CARD OF 'jotterlaw18.RevisionTally'. -/
def revisionTallyCard : Claim7 := { stood := { row := revisionTallyRow, standIns := [], harness := (true, "4507de2b150eec115770872b938cfbdeecc504f32a7d0f7ce4cc3822408ba082"), looks := true }, kinds := [], alts := [], laidByText := true, laidKinds := [.handle, .data, .funcs, .data, .widerDeep, .widerDeep, .data], laidTests := true, laidLooks := .later }
def RevisionTallyCardSaid : Prop := Claim7.holds Tryz.pinned (.plain (OpenSpec.ofChange revisionTallySpec)) revisionTallyCard

/-- THE TIED CARD OF 'jotterlaw18.RevisionChanges'. -/
def revisionChangesCard : Claim7 := { stood := { row := revisionChangesRow, standIns := [], harness := (true, "4507de2b150eec115770872b938cfbdeecc504f32a7d0f7ce4cc3822408ba082"), looks := true }, kinds := [], alts := [], laidByText := true, laidKinds := [.handle, .data, .funcs, .data, .widerDeep, .widerDeep, .data], laidTests := true, laidLooks := .later }
def RevisionChangesCardSaid : Prop := Claim7.holds Tryz.pinned (.plain (OpenSpec.ofChange revisionChangesSpec)) revisionChangesCard

/-- THE TIED CARD OF 'jotterlaw18.RevisionOwn'. -/
def revisionOwnCard : Claim7 := { stood := { row := revisionOwnRow, standIns := [], harness := (true, "4507de2b150eec115770872b938cfbdeecc504f32a7d0f7ce4cc3822408ba082"), looks := true }, kinds := [], alts := [], laidByText := true, laidKinds := [.handle, .data, .funcs, .data, .widerDeep, .widerDeep, .data], laidTests := true, laidLooks := .later }
def RevisionOwnCardSaid : Prop := Claim7.holds Tryz.pinned (.plain (OpenSpec.ofChange revisionOwnSpec)) revisionOwnCard

/-- THE SECOND FORM's CARD OF 'jotterlaw18.RevisionTexts'. -/
def revisionTextsUptoCard : Claim7 := { stood := { row := revisionTextsUptoRow, standIns := [], harness := (true, "4507de2b150eec115770872b938cfbdeecc504f32a7d0f7ce4cc3822408ba082"), looks := true }, kinds := [], alts := [], laidByText := true, laidKinds := [.handle, .data, .funcs, .data, .widerDeep, .widerDeep, .data], laidTests := true, laidLooks := .later }
def RevisionTextsUptoCardSaid : Prop := Claim7.holds Tryz.pinned (.plain (OpenSpec.upto revisionTextsSpec)) revisionTextsUptoCard

/-- THE SECOND FORM's CARD OF 'jotterlaw18.RevisionCrash'. -/
def revisionCrashUptoCard : Claim7 := { stood := { row := revisionCrashUptoRow, standIns := [], harness := (true, "4507de2b150eec115770872b938cfbdeecc504f32a7d0f7ce4cc3822408ba082"), looks := true }, kinds := [], alts := [], laidByText := true, laidKinds := [.handle, .data, .funcs, .data, .widerDeep, .widerDeep, .data], laidTests := true, laidLooks := .later }
def RevisionCrashUptoCardSaid : Prop := Claim7.holds Tryz.pinned (.plain (OpenSpec.upto revisionCrashSpec)) revisionCrashUptoCard

/-- THE SECOND FORM's CARD OF 'jotterlaw18.RevisionBlame'. -/
def revisionBlameUptoCard : Claim7 := { stood := { row := revisionBlameUptoRow, standIns := [], harness := (true, "4507de2b150eec115770872b938cfbdeecc504f32a7d0f7ce4cc3822408ba082"), looks := true }, kinds := [], alts := [], laidByText := true, laidKinds := [.handle, .data, .funcs, .data, .widerDeep, .widerDeep, .data], laidTests := true, laidLooks := .later }
def RevisionBlameUptoCardSaid : Prop := Claim7.holds Tryz.pinned (.plain (OpenSpec.upto revisionBlameSpec)) revisionBlameUptoCard

/-- THE SECOND FORM's CARD OF 'jotterlaw18.RevisionLife'. -/
def revisionLifeUptoCard : Claim7 := { stood := { row := revisionLifeUptoRow, standIns := [], harness := (true, "4507de2b150eec115770872b938cfbdeecc504f32a7d0f7ce4cc3822408ba082"), looks := true }, kinds := [], alts := [], laidByText := true, laidKinds := [.handle, .data, .funcs, .data, .widerDeep, .widerDeep, .data], laidTests := true, laidLooks := .later }
def RevisionLifeUptoCardSaid : Prop := Claim7.holds Tryz.pinned (.plain (OpenSpec.upto revisionLifeSpec)) revisionLifeUptoCard

/-- THE SECOND FORM's CARD OF 'jotterlaw18.RevisionTally'. -/
def revisionTallyUptoCard : Claim7 := { stood := { row := revisionTallyUptoRow, standIns := [], harness := (true, "4507de2b150eec115770872b938cfbdeecc504f32a7d0f7ce4cc3822408ba082"), looks := true }, kinds := [], alts := [], laidByText := true, laidKinds := [.handle, .data, .funcs, .data, .widerDeep, .widerDeep, .data], laidTests := true, laidLooks := .later }
def RevisionTallyUptoCardSaid : Prop := Claim7.holds Tryz.pinned (.plain (OpenSpec.upto revisionTallySpec)) revisionTallyUptoCard

/-- THE SECOND FORM's CARD OF 'jotterlaw18.RevisionChanges'. -/
def revisionChangesUptoCard : Claim7 := { stood := { row := revisionChangesUptoRow, standIns := [], harness := (true, "4507de2b150eec115770872b938cfbdeecc504f32a7d0f7ce4cc3822408ba082"), looks := true }, kinds := [], alts := [], laidByText := true, laidKinds := [.handle, .data, .funcs, .data, .widerDeep, .widerDeep, .data], laidTests := true, laidLooks := .later }
def RevisionChangesUptoCardSaid : Prop := Claim7.holds Tryz.pinned (.plain (OpenSpec.upto revisionChangesSpec)) revisionChangesUptoCard

/-- THE SECOND FORM's CARD OF 'jotterlaw18.RevisionOwn'. -/
def revisionOwnUptoCard : Claim7 := { stood := { row := revisionOwnUptoRow, standIns := [], harness := (true, "4507de2b150eec115770872b938cfbdeecc504f32a7d0f7ce4cc3822408ba082"), looks := true }, kinds := [], alts := [], laidByText := true, laidKinds := [.handle, .data, .funcs, .data, .widerDeep, .widerDeep, .data], laidTests := true, laidLooks := .later }
def RevisionOwnUptoCardSaid : Prop := Claim7.holds Tryz.pinned (.plain (OpenSpec.upto revisionOwnSpec)) revisionOwnUptoCard
end Rows
end Go.Proofs.YtdcgpdgokaephaaGreatDoor
