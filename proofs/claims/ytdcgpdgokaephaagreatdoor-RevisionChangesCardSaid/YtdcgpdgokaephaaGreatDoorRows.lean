/-
  NARROWER THAN 'FOR EVERY INPUT', by the rows' own cells (each row's printed sentence says how): RevisionTexts: laid · RevisionCrash: laid · RevisionBlame: laid · RevisionLife: laid · RevisionTally: laid · RevisionChanges: laid · RevisionOwn: laid.
  DERIVED. THE GIVEN ROWS OF THIS SEAT. 7 by the template 'for every input the law returns true; each argument reads behind the call as it read before'; 0 by the template 'total and deterministic' (their statements: YtdcgpdgokaephaaGreatDoorTotals.lean).
  GIVEN WITH THE SEED: the statements are not yours to turn. If you find one false, say at which input.
  Laid BY PROGRAM, IN A SANDBOX (cutbox-rows.mjs): the forced cells as the released guide's own fill.sh prints them over the translation a7f5bce9b6432fc4… (all of the seat's roots in one cut). By AI agents, Wed Nov 11 2026. No macro, syntax, notation, axiom, sorry.
-/
import Derived.Test.YtdcgpdgokaephaaGreatDoorChecked
import GoSem.Claim
import GoSem.ClaimJoined
import GoSem.ClaimMapViews
import Derived.JoinedTies
import Derived.KernelRfl
namespace Go.Proofs.YtdcgpdgokaephaaGreatDoor
/- THE CELL 'sum', in the pinned program and in every row, IS THE sha256 OF THE DUMP (.gsa) THAT YtdcgpdgokaephaaGreatDoorProg.lean LOADS. Nothing in Lean hashes anything: it is a label: what it is worth is what the hold of that sum in a sandbox is worth. -/
noncomputable def Tryz.pinned : Pinned := { name := "ytdcgpdgokaephaagreatdoor", sum := "a7f5bce9b6432fc465bb38d47d2f8bceea7735b889e373c277f01b0a160c4bff", checked := Tryz.checked }
namespace Rows
def none {H : Type} : Left H := { results := [], args := [] }

/- WHAT THE LISTED PACKAGE-LEVEL VARIABLES READ AS WHEN THE CALL BEGINS. Each datum BY PROGRAM (the guide's laid-datum.mjs) off the statement by which the dump's own 'gosem.cut.vars' lays the variable. In a bare row this is a premise. The card (YtdcgpdgokaephaaGreatDoorCards.lean) ties it to the program's text. -/
def laid_errors_errorType {H : Type} : DataW H := .iface "internal/reflectlite.rtype" (.agg [.ptr (.lit (.string [101, 114, 114, 111, 114]))])
def laid_jotter_octet_table {H : Type} : DataW H := .agg [.lit (.int .u32 0), .lit (.int .u32 498536548), .lit (.int .u32 997073096), .lit (.int .u32 651767980), .lit (.int .u32 1994146192), .lit (.int .u32 1802195444), .lit (.int .u32 1303535960), .lit (.int .u32 1342533948), .lit (.int .u32 3988292384), .lit (.int .u32 4027552580), .lit (.int .u32 3604390888), .lit (.int .u32 3412177804), .lit (.int .u32 2607071920), .lit (.int .u32 2262029012), .lit (.int .u32 2685067896), .lit (.int .u32 3183342108)]
def laid_jotter_ot_rules {H : Type} : DataW H := .iface "func table" (.agg [.agg [.iface "func" (.lit (.string [106, 111, 116, 116, 101, 114, 47, 111, 116, 46, 115, 116, 97, 121, 115])), .iface "func" (.lit (.string [106, 111, 116, 116, 101, 114, 47, 111, 116, 46, 115, 116, 97, 121, 115])), .iface "func" (.lit (.string [106, 111, 116, 116, 101, 114, 47, 111, 116, 46, 115, 116, 97, 121, 115]))], .agg [.iface "func" (.lit (.string [106, 111, 116, 116, 101, 114, 47, 111, 116, 46, 115, 116, 97, 121, 115])), .iface "func" (.lit (.string [106, 111, 116, 116, 101, 114, 47, 111, 116, 46, 105, 110, 115, 101, 114, 116, 80, 97, 115, 116, 73, 110, 115, 101, 114, 116])), .iface "func" (.lit (.string [106, 111, 116, 116, 101, 114, 47, 111, 116, 46, 105, 110, 115, 101, 114, 116, 80, 97, 115, 116, 68, 101, 108, 101, 116, 101]))], .agg [.iface "func" (.lit (.string [106, 111, 116, 116, 101, 114, 47, 111, 116, 46, 115, 116, 97, 121, 115])), .iface "func" (.lit (.string [106, 111, 116, 116, 101, 114, 47, 111, 116, 46, 100, 101, 108, 101, 116, 101, 80, 97, 115, 116, 73, 110, 115, 101, 114, 116])), .iface "func" (.lit (.string [106, 111, 116, 116, 101, 114, 47, 111, 116, 46, 100, 101, 108, 101, 116, 101, 80, 97, 115, 116, 68, 101, 108, 101, 116, 101]))]])
def laid_jotter_wire_size {H : Type} : DataW H := .agg [.lit (.int .i64 1), .lit (.int .i64 1), .lit (.int .i64 1), .lit (.int .i64 2), .lit (.int .i64 1), .lit (.int .i64 2), .lit (.int .i64 2), .lit (.int .i64 2), .lit (.int .i64 2), .lit (.int .i64 1), .lit (.int .i64 2), .lit (.int .i64 1), .lit (.int .i64 1), .lit (.int .i64 1)]
def laid_jotter_wire_shapes {H : Type} : DataW H := .agg [.nil, .slice [.lit (.int .i64 1), .lit (.int .i64 2), .lit (.int .i64 3), .lit (.int .i64 4)] [], .slice [.lit (.int .i64 1), .lit (.int .i64 2), .lit (.int .i64 5), .lit (.int .i64 6), .lit (.int .i64 8), .lit (.int .i64 9), .lit (.int .i64 10), .lit (.int .i64 11), .lit (.int .i64 12), .lit (.int .i64 13)] [], .slice [.lit (.int .i64 1), .lit (.int .i64 2), .lit (.int .i64 6)] [], .slice [.lit (.int .i64 1), .lit (.int .i64 2)] [], .slice [.lit (.int .i64 1), .lit (.int .i64 2), .lit (.int .i64 5), .lit (.int .i64 6), .lit (.int .i64 7), .lit (.int .i64 9), .lit (.int .i64 10), .lit (.int .i64 11), .lit (.int .i64 12), .lit (.int .i64 13)] [], .slice [.lit (.int .i64 1), .lit (.int .i64 2), .lit (.int .i64 6)] []]
def laid_jotter_wire_itemShapes {H : Type} : DataW H := .agg [.nil, .slice [.lit (.int .i64 1)] [], .slice [.lit (.int .i64 8), .lit (.int .i64 9), .lit (.int .i64 10), .lit (.int .i64 11), .lit (.int .i64 12), .lit (.int .i64 13)] []]
def laid_jotter_wire_itemFields {H : Type} : DataW H := .agg [.lit (.int .i64 1), .lit (.int .i64 8), .lit (.int .i64 9), .lit (.int .i64 10), .lit (.int .i64 11), .lit (.int .i64 12), .lit (.int .i64 13)]

/-- 'jotterlaw18.RevisionTexts': WHATEVER THE INPUT: true; the input reads as it did. -/
def revisionTextsSpec : ChangeSpec := { name := "revisionTexts", fn := fun _ => fun
  | [d1, d2] => { results := [.lit (.bool true)], args := [d1, d2] }
  | _ => none }
def revisionTextsRow : OpenClaim := { program := "ytdcgpdgokaephaagreatdoor", sum := "a7f5bce9b6432fc465bb38d47d2f8bceea7735b889e373c277f01b0a160c4bff", func := "jotter/jotterlaw18.RevisionTexts", spec := "revisionTexts", inPlace := ["internal/reflectlite.ValueOf", "(internal/reflectlite.Value).Type", "(internal/reflectlite.Value).IsNil", "internal/reflectlite.TypeOf", "(internal/reflectlite.Value).Elem", "(internal/reflectlite.Value).Set", "slices.overlaps[jotter/api.Elem]"], unfollowed := true, recurses := true, named := ["jotter/wire.shapes", "jotter/wire.size", "jotter/octet.table", "errors.errorType", "jotter/ot.rules", "jotter/wire.itemShapes", "jotter/wire.itemFields"], plainKeys := false, apart := false, laid := [("errors.errorType", laid_errors_errorType), ("jotter/octet.table", laid_jotter_octet_table), ("jotter/ot.rules", laid_jotter_ot_rules), ("jotter/wire.size", laid_jotter_wire_size), ("jotter/wire.shapes", laid_jotter_wire_shapes), ("jotter/wire.itemShapes", laid_jotter_wire_itemShapes), ("jotter/wire.itemFields", laid_jotter_wire_itemFields)] }
def RevisionTextsSaid : Prop := revisionTextsRow.holds Tryz.pinned (OpenSpec.ofChange revisionTextsSpec)

/-- ITS FALSE NEIGHBOUR: 'it returns false'. Refute it at one input. -/
def revisionTextsWrong : ChangeSpec := { name := "revisionTexts", fn := fun _ => fun
  | [d1, d2] => { results := [.lit (.bool false)], args := [d1, d2] }
  | _ => none }
def RevisionTextsWrongFalsely : Prop := revisionTextsRow.holds Tryz.pinned (OpenSpec.ofChange revisionTextsWrong)

/-- 'jotterlaw18.RevisionCrash': WHATEVER THE INPUT: true; the input reads as it did. -/
def revisionCrashSpec : ChangeSpec := { name := "revisionCrash", fn := fun _ => fun
  | [d] => { results := [.lit (.bool true)], args := [d] }
  | _ => none }
def revisionCrashRow : OpenClaim := { program := "ytdcgpdgokaephaagreatdoor", sum := "a7f5bce9b6432fc465bb38d47d2f8bceea7735b889e373c277f01b0a160c4bff", func := "jotter/jotterlaw18.RevisionCrash", spec := "revisionCrash", inPlace := ["internal/reflectlite.ValueOf", "(internal/reflectlite.Value).Type", "(internal/reflectlite.Value).IsNil", "internal/reflectlite.TypeOf", "(internal/reflectlite.Value).Elem", "(internal/reflectlite.Value).Set", "slices.overlaps[jotter/api.Elem]"], unfollowed := true, recurses := true, named := ["jotter/wire.shapes", "jotter/wire.size", "jotter/octet.table", "errors.errorType", "jotter/ot.rules", "jotter/wire.itemShapes", "jotter/wire.itemFields"], plainKeys := false, apart := false, laid := [("errors.errorType", laid_errors_errorType), ("jotter/octet.table", laid_jotter_octet_table), ("jotter/ot.rules", laid_jotter_ot_rules), ("jotter/wire.size", laid_jotter_wire_size), ("jotter/wire.shapes", laid_jotter_wire_shapes), ("jotter/wire.itemShapes", laid_jotter_wire_itemShapes), ("jotter/wire.itemFields", laid_jotter_wire_itemFields)] }
def RevisionCrashSaid : Prop := revisionCrashRow.holds Tryz.pinned (OpenSpec.ofChange revisionCrashSpec)

/-- ITS FALSE NEIGHBOUR: 'it returns false'. Refute it at one input. -/
def revisionCrashWrong : ChangeSpec := { name := "revisionCrash", fn := fun _ => fun
  | [d] => { results := [.lit (.bool false)], args := [d] }
  | _ => none }
def RevisionCrashWrongFalsely : Prop := revisionCrashRow.holds Tryz.pinned (OpenSpec.ofChange revisionCrashWrong)

/-- 'jotterlaw18.RevisionBlame': WHATEVER THE INPUT: true; the input reads as it did. -/
def revisionBlameSpec : ChangeSpec := { name := "revisionBlame", fn := fun _ => fun
  | [d] => { results := [.lit (.bool true)], args := [d] }
  | _ => none }
def revisionBlameRow : OpenClaim := { program := "ytdcgpdgokaephaagreatdoor", sum := "a7f5bce9b6432fc465bb38d47d2f8bceea7735b889e373c277f01b0a160c4bff", func := "jotter/jotterlaw18.RevisionBlame", spec := "revisionBlame", inPlace := ["internal/reflectlite.ValueOf", "(internal/reflectlite.Value).Type", "(internal/reflectlite.Value).IsNil", "internal/reflectlite.TypeOf", "(internal/reflectlite.Value).Elem", "(internal/reflectlite.Value).Set", "slices.overlaps[jotter/api.Elem]"], unfollowed := true, recurses := true, named := ["jotter/wire.shapes", "jotter/wire.size", "jotter/octet.table", "errors.errorType", "jotter/ot.rules", "jotter/wire.itemShapes", "jotter/wire.itemFields"], plainKeys := false, apart := false, laid := [("errors.errorType", laid_errors_errorType), ("jotter/octet.table", laid_jotter_octet_table), ("jotter/ot.rules", laid_jotter_ot_rules), ("jotter/wire.size", laid_jotter_wire_size), ("jotter/wire.shapes", laid_jotter_wire_shapes), ("jotter/wire.itemShapes", laid_jotter_wire_itemShapes), ("jotter/wire.itemFields", laid_jotter_wire_itemFields)] }
def RevisionBlameSaid : Prop := revisionBlameRow.holds Tryz.pinned (OpenSpec.ofChange revisionBlameSpec)

/-- ITS FALSE NEIGHBOUR: 'it returns false'. Refute it at one input. -/
def revisionBlameWrong : ChangeSpec := { name := "revisionBlame", fn := fun _ => fun
  | [d] => { results := [.lit (.bool false)], args := [d] }
  | _ => none }
def RevisionBlameWrongFalsely : Prop := revisionBlameRow.holds Tryz.pinned (OpenSpec.ofChange revisionBlameWrong)

/-- 'jotterlaw18.RevisionLife': WHATEVER THE INPUT: true; the input reads as it did. -/
def revisionLifeSpec : ChangeSpec := { name := "revisionLife", fn := fun _ => fun
  | [d] => { results := [.lit (.bool true)], args := [d] }
  | _ => none }
def revisionLifeRow : OpenClaim := { program := "ytdcgpdgokaephaagreatdoor", sum := "a7f5bce9b6432fc465bb38d47d2f8bceea7735b889e373c277f01b0a160c4bff", func := "jotter/jotterlaw18.RevisionLife", spec := "revisionLife", inPlace := ["internal/reflectlite.ValueOf", "(internal/reflectlite.Value).Type", "(internal/reflectlite.Value).IsNil", "internal/reflectlite.TypeOf", "(internal/reflectlite.Value).Elem", "(internal/reflectlite.Value).Set", "slices.overlaps[jotter/api.Elem]"], unfollowed := true, recurses := true, named := ["jotter/wire.shapes", "jotter/wire.size", "jotter/octet.table", "errors.errorType", "jotter/ot.rules", "jotter/wire.itemShapes", "jotter/wire.itemFields"], plainKeys := false, apart := false, laid := [("errors.errorType", laid_errors_errorType), ("jotter/octet.table", laid_jotter_octet_table), ("jotter/ot.rules", laid_jotter_ot_rules), ("jotter/wire.size", laid_jotter_wire_size), ("jotter/wire.shapes", laid_jotter_wire_shapes), ("jotter/wire.itemShapes", laid_jotter_wire_itemShapes), ("jotter/wire.itemFields", laid_jotter_wire_itemFields)] }
def RevisionLifeSaid : Prop := revisionLifeRow.holds Tryz.pinned (OpenSpec.ofChange revisionLifeSpec)

/-- ITS FALSE NEIGHBOUR: 'it returns false'. Refute it at one input. -/
def revisionLifeWrong : ChangeSpec := { name := "revisionLife", fn := fun _ => fun
  | [d] => { results := [.lit (.bool false)], args := [d] }
  | _ => none }
def RevisionLifeWrongFalsely : Prop := revisionLifeRow.holds Tryz.pinned (OpenSpec.ofChange revisionLifeWrong)

/-- 'jotterlaw18.RevisionTally': WHATEVER THE INPUT: true; the input reads as it did. -/
def revisionTallySpec : ChangeSpec := { name := "revisionTally", fn := fun _ => fun
  | [d] => { results := [.lit (.bool true)], args := [d] }
  | _ => none }
def revisionTallyRow : OpenClaim := { program := "ytdcgpdgokaephaagreatdoor", sum := "a7f5bce9b6432fc465bb38d47d2f8bceea7735b889e373c277f01b0a160c4bff", func := "jotter/jotterlaw18.RevisionTally", spec := "revisionTally", inPlace := ["internal/reflectlite.ValueOf", "(internal/reflectlite.Value).Type", "(internal/reflectlite.Value).IsNil", "internal/reflectlite.TypeOf", "(internal/reflectlite.Value).Elem", "(internal/reflectlite.Value).Set", "slices.overlaps[jotter/api.Elem]"], unfollowed := true, recurses := true, named := ["jotter/wire.shapes", "jotter/wire.size", "jotter/octet.table", "errors.errorType", "jotter/ot.rules", "jotter/wire.itemShapes", "jotter/wire.itemFields"], plainKeys := false, apart := false, laid := [("errors.errorType", laid_errors_errorType), ("jotter/octet.table", laid_jotter_octet_table), ("jotter/ot.rules", laid_jotter_ot_rules), ("jotter/wire.size", laid_jotter_wire_size), ("jotter/wire.shapes", laid_jotter_wire_shapes), ("jotter/wire.itemShapes", laid_jotter_wire_itemShapes), ("jotter/wire.itemFields", laid_jotter_wire_itemFields)] }
def RevisionTallySaid : Prop := revisionTallyRow.holds Tryz.pinned (OpenSpec.ofChange revisionTallySpec)

/-- ITS FALSE NEIGHBOUR: 'it returns false'. Refute it at one input. -/
def revisionTallyWrong : ChangeSpec := { name := "revisionTally", fn := fun _ => fun
  | [d] => { results := [.lit (.bool false)], args := [d] }
  | _ => none }
def RevisionTallyWrongFalsely : Prop := revisionTallyRow.holds Tryz.pinned (OpenSpec.ofChange revisionTallyWrong)

/-- 'jotterlaw18.RevisionChanges': WHATEVER THE INPUT: true; the input reads as it did. -/
def revisionChangesSpec : ChangeSpec := { name := "revisionChanges", fn := fun _ => fun
  | [d] => { results := [.lit (.bool true)], args := [d] }
  | _ => none }
def revisionChangesRow : OpenClaim := { program := "ytdcgpdgokaephaagreatdoor", sum := "a7f5bce9b6432fc465bb38d47d2f8bceea7735b889e373c277f01b0a160c4bff", func := "jotter/jotterlaw18.RevisionChanges", spec := "revisionChanges", inPlace := ["internal/reflectlite.ValueOf", "(internal/reflectlite.Value).Type", "(internal/reflectlite.Value).IsNil", "internal/reflectlite.TypeOf", "(internal/reflectlite.Value).Elem", "(internal/reflectlite.Value).Set", "slices.overlaps[jotter/api.Elem]"], unfollowed := true, recurses := true, named := ["jotter/wire.shapes", "jotter/wire.size", "jotter/octet.table", "errors.errorType", "jotter/ot.rules", "jotter/wire.itemShapes", "jotter/wire.itemFields"], plainKeys := false, apart := false, laid := [("errors.errorType", laid_errors_errorType), ("jotter/octet.table", laid_jotter_octet_table), ("jotter/ot.rules", laid_jotter_ot_rules), ("jotter/wire.size", laid_jotter_wire_size), ("jotter/wire.shapes", laid_jotter_wire_shapes), ("jotter/wire.itemShapes", laid_jotter_wire_itemShapes), ("jotter/wire.itemFields", laid_jotter_wire_itemFields)] }
def RevisionChangesSaid : Prop := revisionChangesRow.holds Tryz.pinned (OpenSpec.ofChange revisionChangesSpec)

/-- ITS FALSE NEIGHBOUR: 'it returns false'. Refute it at one input. -/
def revisionChangesWrong : ChangeSpec := { name := "revisionChanges", fn := fun _ => fun
  | [d] => { results := [.lit (.bool false)], args := [d] }
  | _ => none }
def RevisionChangesWrongFalsely : Prop := revisionChangesRow.holds Tryz.pinned (OpenSpec.ofChange revisionChangesWrong)

/-- 'jotterlaw18.RevisionOwn': WHATEVER THE INPUT: true; the input reads as it did. -/
def revisionOwnSpec : ChangeSpec := { name := "revisionOwn", fn := fun _ => fun
  | [d1, d2, d3] => { results := [.lit (.bool true)], args := [d1, d2, d3] }
  | _ => none }
def revisionOwnRow : OpenClaim := { program := "ytdcgpdgokaephaagreatdoor", sum := "a7f5bce9b6432fc465bb38d47d2f8bceea7735b889e373c277f01b0a160c4bff", func := "jotter/jotterlaw18.RevisionOwn", spec := "revisionOwn", inPlace := ["internal/reflectlite.ValueOf", "(internal/reflectlite.Value).Type", "(internal/reflectlite.Value).IsNil", "internal/reflectlite.TypeOf", "(internal/reflectlite.Value).Elem", "(internal/reflectlite.Value).Set", "slices.overlaps[jotter/api.Elem]"], unfollowed := true, recurses := true, named := ["jotter/wire.shapes", "jotter/wire.size", "jotter/octet.table", "errors.errorType", "jotter/ot.rules", "jotter/wire.itemShapes", "jotter/wire.itemFields"], plainKeys := false, apart := false, laid := [("errors.errorType", laid_errors_errorType), ("jotter/octet.table", laid_jotter_octet_table), ("jotter/ot.rules", laid_jotter_ot_rules), ("jotter/wire.size", laid_jotter_wire_size), ("jotter/wire.shapes", laid_jotter_wire_shapes), ("jotter/wire.itemShapes", laid_jotter_wire_itemShapes), ("jotter/wire.itemFields", laid_jotter_wire_itemFields)] }
def RevisionOwnSaid : Prop := revisionOwnRow.holds Tryz.pinned (OpenSpec.ofChange revisionOwnSpec)

/-- ITS FALSE NEIGHBOUR: 'it returns false'. Refute it at one input. -/
def revisionOwnWrong : ChangeSpec := { name := "revisionOwn", fn := fun _ => fun
  | [d1, d2, d3] => { results := [.lit (.bool false)], args := [d1, d2, d3] }
  | _ => none }
def RevisionOwnWrongFalsely : Prop := revisionOwnRow.holds Tryz.pinned (OpenSpec.ofChange revisionOwnWrong)

/- THE SECOND FORM. 'bulk': how many values and letters a reading holds, each counted each time it is reached (what is shared counts as often as it is met; a slice's spare places count too). A statement '..UptoSaid' is the law's where the arguments, and the package variables that the reading takes, are together of bulk at most 1048576: NARROWER than '..Said'. Prove '..Said' where nothing that the law and all that it calls make is longer than what came in: it says more and counts as full. Else prove '..UptoSaid'. A law counts once. -/
mutual
def uptoBulk {H : Type} : DataW H → Nat
  | .lit (.string bytes) => bytes.length + 1
  | .lit _ => 1
  | .nil => 1
  | .ptr d => uptoBulk d + 1
  | .slice elems spare => uptoBulkAll elems + uptoBulkAll spare + 1
  | .agg parts => uptoBulkAll parts + 1
  | .iface _ d => uptoBulk d + 1
  | .map entries => uptoBulkEntries entries + 1
  | .held _ => 1
def uptoBulkAll {H : Type} : List (DataW H) → Nat
  | [] => 0
  | d :: r => uptoBulk d + uptoBulkAll r
def uptoBulkEntries {H : Type} : List (Lit × DataW H) → Nat
  | [] => 0
  | x :: r => uptoBulkEntry x + uptoBulkEntries r
def uptoBulkEntry {H : Type} : Lit × DataW H → Nat
  | (.string bytes, d) => bytes.length + uptoBulk d + 1
  | (_, d) => uptoBulk d + 1
 end
def uptoSmall : (H : Type) → List (DataW H) → Bool := fun _ ds => decide (uptoBulkAll ds ≤ 1048576)
def OpenSpec.upto (s : _root_.Go.ChangeSpec) : _root_.Go.OpenSpec := { _root_.Go.OpenSpec.ofChange s with cond := some uptoSmall }

/-- 'jotterlaw18.RevisionTexts', WHERE WHAT IT READS IS OF BULK AT MOST 1048576: true; the input reads as it did. -/
def revisionTextsUptoRow : OpenClaim := { program := "ytdcgpdgokaephaagreatdoor", sum := "a7f5bce9b6432fc465bb38d47d2f8bceea7735b889e373c277f01b0a160c4bff", func := "jotter/jotterlaw18.RevisionTexts", spec := "revisionTexts", inPlace := ["internal/reflectlite.ValueOf", "(internal/reflectlite.Value).Type", "(internal/reflectlite.Value).IsNil", "internal/reflectlite.TypeOf", "(internal/reflectlite.Value).Elem", "(internal/reflectlite.Value).Set", "slices.overlaps[jotter/api.Elem]"], unfollowed := true, recurses := true, named := ["jotter/wire.shapes", "jotter/wire.size", "jotter/octet.table", "errors.errorType", "jotter/ot.rules", "jotter/wire.itemShapes", "jotter/wire.itemFields"], plainKeys := false, apart := false, laid := [("errors.errorType", laid_errors_errorType), ("jotter/octet.table", laid_jotter_octet_table), ("jotter/ot.rules", laid_jotter_ot_rules), ("jotter/wire.size", laid_jotter_wire_size), ("jotter/wire.shapes", laid_jotter_wire_shapes), ("jotter/wire.itemShapes", laid_jotter_wire_itemShapes), ("jotter/wire.itemFields", laid_jotter_wire_itemFields)], narrowed := true }
def RevisionTextsUptoSaid : Prop := revisionTextsUptoRow.holds Tryz.pinned (OpenSpec.upto revisionTextsSpec)

/-- 'jotterlaw18.RevisionCrash', WHERE WHAT IT READS IS OF BULK AT MOST 1048576: true; the input reads as it did. -/
def revisionCrashUptoRow : OpenClaim := { program := "ytdcgpdgokaephaagreatdoor", sum := "a7f5bce9b6432fc465bb38d47d2f8bceea7735b889e373c277f01b0a160c4bff", func := "jotter/jotterlaw18.RevisionCrash", spec := "revisionCrash", inPlace := ["internal/reflectlite.ValueOf", "(internal/reflectlite.Value).Type", "(internal/reflectlite.Value).IsNil", "internal/reflectlite.TypeOf", "(internal/reflectlite.Value).Elem", "(internal/reflectlite.Value).Set", "slices.overlaps[jotter/api.Elem]"], unfollowed := true, recurses := true, named := ["jotter/wire.shapes", "jotter/wire.size", "jotter/octet.table", "errors.errorType", "jotter/ot.rules", "jotter/wire.itemShapes", "jotter/wire.itemFields"], plainKeys := false, apart := false, laid := [("errors.errorType", laid_errors_errorType), ("jotter/octet.table", laid_jotter_octet_table), ("jotter/ot.rules", laid_jotter_ot_rules), ("jotter/wire.size", laid_jotter_wire_size), ("jotter/wire.shapes", laid_jotter_wire_shapes), ("jotter/wire.itemShapes", laid_jotter_wire_itemShapes), ("jotter/wire.itemFields", laid_jotter_wire_itemFields)], narrowed := true }
def RevisionCrashUptoSaid : Prop := revisionCrashUptoRow.holds Tryz.pinned (OpenSpec.upto revisionCrashSpec)

/-- 'jotterlaw18.RevisionBlame', WHERE WHAT IT READS IS OF BULK AT MOST 1048576: true; the input reads as it did. -/
def revisionBlameUptoRow : OpenClaim := { program := "ytdcgpdgokaephaagreatdoor", sum := "a7f5bce9b6432fc465bb38d47d2f8bceea7735b889e373c277f01b0a160c4bff", func := "jotter/jotterlaw18.RevisionBlame", spec := "revisionBlame", inPlace := ["internal/reflectlite.ValueOf", "(internal/reflectlite.Value).Type", "(internal/reflectlite.Value).IsNil", "internal/reflectlite.TypeOf", "(internal/reflectlite.Value).Elem", "(internal/reflectlite.Value).Set", "slices.overlaps[jotter/api.Elem]"], unfollowed := true, recurses := true, named := ["jotter/wire.shapes", "jotter/wire.size", "jotter/octet.table", "errors.errorType", "jotter/ot.rules", "jotter/wire.itemShapes", "jotter/wire.itemFields"], plainKeys := false, apart := false, laid := [("errors.errorType", laid_errors_errorType), ("jotter/octet.table", laid_jotter_octet_table), ("jotter/ot.rules", laid_jotter_ot_rules), ("jotter/wire.size", laid_jotter_wire_size), ("jotter/wire.shapes", laid_jotter_wire_shapes), ("jotter/wire.itemShapes", laid_jotter_wire_itemShapes), ("jotter/wire.itemFields", laid_jotter_wire_itemFields)], narrowed := true }
def RevisionBlameUptoSaid : Prop := revisionBlameUptoRow.holds Tryz.pinned (OpenSpec.upto revisionBlameSpec)

/-- 'jotterlaw18.RevisionLife', WHERE WHAT IT READS IS OF BULK AT MOST 1048576: true; the input reads as it did. -/
def revisionLifeUptoRow : OpenClaim := { program := "ytdcgpdgokaephaagreatdoor", sum := "a7f5bce9b6432fc465bb38d47d2f8bceea7735b889e373c277f01b0a160c4bff", func := "jotter/jotterlaw18.RevisionLife", spec := "revisionLife", inPlace := ["internal/reflectlite.ValueOf", "(internal/reflectlite.Value).Type", "(internal/reflectlite.Value).IsNil", "internal/reflectlite.TypeOf", "(internal/reflectlite.Value).Elem", "(internal/reflectlite.Value).Set", "slices.overlaps[jotter/api.Elem]"], unfollowed := true, recurses := true, named := ["jotter/wire.shapes", "jotter/wire.size", "jotter/octet.table", "errors.errorType", "jotter/ot.rules", "jotter/wire.itemShapes", "jotter/wire.itemFields"], plainKeys := false, apart := false, laid := [("errors.errorType", laid_errors_errorType), ("jotter/octet.table", laid_jotter_octet_table), ("jotter/ot.rules", laid_jotter_ot_rules), ("jotter/wire.size", laid_jotter_wire_size), ("jotter/wire.shapes", laid_jotter_wire_shapes), ("jotter/wire.itemShapes", laid_jotter_wire_itemShapes), ("jotter/wire.itemFields", laid_jotter_wire_itemFields)], narrowed := true }
def RevisionLifeUptoSaid : Prop := revisionLifeUptoRow.holds Tryz.pinned (OpenSpec.upto revisionLifeSpec)

/-- 'jotterlaw18.RevisionTally', WHERE WHAT IT READS IS OF BULK AT MOST 1048576: true; the input reads as it did. -/
def revisionTallyUptoRow : OpenClaim := { program := "ytdcgpdgokaephaagreatdoor", sum := "a7f5bce9b6432fc465bb38d47d2f8bceea7735b889e373c277f01b0a160c4bff", func := "jotter/jotterlaw18.RevisionTally", spec := "revisionTally", inPlace := ["internal/reflectlite.ValueOf", "(internal/reflectlite.Value).Type", "(internal/reflectlite.Value).IsNil", "internal/reflectlite.TypeOf", "(internal/reflectlite.Value).Elem", "(internal/reflectlite.Value).Set", "slices.overlaps[jotter/api.Elem]"], unfollowed := true, recurses := true, named := ["jotter/wire.shapes", "jotter/wire.size", "jotter/octet.table", "errors.errorType", "jotter/ot.rules", "jotter/wire.itemShapes", "jotter/wire.itemFields"], plainKeys := false, apart := false, laid := [("errors.errorType", laid_errors_errorType), ("jotter/octet.table", laid_jotter_octet_table), ("jotter/ot.rules", laid_jotter_ot_rules), ("jotter/wire.size", laid_jotter_wire_size), ("jotter/wire.shapes", laid_jotter_wire_shapes), ("jotter/wire.itemShapes", laid_jotter_wire_itemShapes), ("jotter/wire.itemFields", laid_jotter_wire_itemFields)], narrowed := true }
def RevisionTallyUptoSaid : Prop := revisionTallyUptoRow.holds Tryz.pinned (OpenSpec.upto revisionTallySpec)

/-- 'jotterlaw18.RevisionChanges', WHERE WHAT IT READS IS OF BULK AT MOST 1048576: true; the input reads as it did. -/
def revisionChangesUptoRow : OpenClaim := { program := "ytdcgpdgokaephaagreatdoor", sum := "a7f5bce9b6432fc465bb38d47d2f8bceea7735b889e373c277f01b0a160c4bff", func := "jotter/jotterlaw18.RevisionChanges", spec := "revisionChanges", inPlace := ["internal/reflectlite.ValueOf", "(internal/reflectlite.Value).Type", "(internal/reflectlite.Value).IsNil", "internal/reflectlite.TypeOf", "(internal/reflectlite.Value).Elem", "(internal/reflectlite.Value).Set", "slices.overlaps[jotter/api.Elem]"], unfollowed := true, recurses := true, named := ["jotter/wire.shapes", "jotter/wire.size", "jotter/octet.table", "errors.errorType", "jotter/ot.rules", "jotter/wire.itemShapes", "jotter/wire.itemFields"], plainKeys := false, apart := false, laid := [("errors.errorType", laid_errors_errorType), ("jotter/octet.table", laid_jotter_octet_table), ("jotter/ot.rules", laid_jotter_ot_rules), ("jotter/wire.size", laid_jotter_wire_size), ("jotter/wire.shapes", laid_jotter_wire_shapes), ("jotter/wire.itemShapes", laid_jotter_wire_itemShapes), ("jotter/wire.itemFields", laid_jotter_wire_itemFields)], narrowed := true }
def RevisionChangesUptoSaid : Prop := revisionChangesUptoRow.holds Tryz.pinned (OpenSpec.upto revisionChangesSpec)

/-- 'jotterlaw18.RevisionOwn', WHERE WHAT IT READS IS OF BULK AT MOST 1048576: true; the input reads as it did. -/
def revisionOwnUptoRow : OpenClaim := { program := "ytdcgpdgokaephaagreatdoor", sum := "a7f5bce9b6432fc465bb38d47d2f8bceea7735b889e373c277f01b0a160c4bff", func := "jotter/jotterlaw18.RevisionOwn", spec := "revisionOwn", inPlace := ["internal/reflectlite.ValueOf", "(internal/reflectlite.Value).Type", "(internal/reflectlite.Value).IsNil", "internal/reflectlite.TypeOf", "(internal/reflectlite.Value).Elem", "(internal/reflectlite.Value).Set", "slices.overlaps[jotter/api.Elem]"], unfollowed := true, recurses := true, named := ["jotter/wire.shapes", "jotter/wire.size", "jotter/octet.table", "errors.errorType", "jotter/ot.rules", "jotter/wire.itemShapes", "jotter/wire.itemFields"], plainKeys := false, apart := false, laid := [("errors.errorType", laid_errors_errorType), ("jotter/octet.table", laid_jotter_octet_table), ("jotter/ot.rules", laid_jotter_ot_rules), ("jotter/wire.size", laid_jotter_wire_size), ("jotter/wire.shapes", laid_jotter_wire_shapes), ("jotter/wire.itemShapes", laid_jotter_wire_itemShapes), ("jotter/wire.itemFields", laid_jotter_wire_itemFields)], narrowed := true }
def RevisionOwnUptoSaid : Prop := revisionOwnUptoRow.holds Tryz.pinned (OpenSpec.upto revisionOwnSpec)

end Rows
end Go.Proofs.YtdcgpdgokaephaaGreatDoor
