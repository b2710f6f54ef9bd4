/- RevisionLife: who stands in a text of a run's past was born by then and dies later, if ever; of every list of plays; the seven listed package variables hold what the text lays. Part 5 of 11. -/
import Derived.Test.YtdcgpdgokaephaaGreatDoorRd4
set_option linter.unusedVariables false
set_option linter.unusedSimpArgs false
set_option linter.unusedSectionVars false
namespace Go.Sl
open Go Go.Proofs
def S130_k1 (G : Heap) (K : Value → Heap → Prop) (Kp : PK) (r_4 : Nat) (n_16 : Int) (bl_2 : Nat) (ba_1 : Option Addr) (bc_3 : Nat) (t21_17 : Bool) (h : Heap) : Prop :=
  If t21_17 (CallF Tryz.prog G 43 #[(Value.int .i64 0), (Value.int .i64 61)] (fun r_19 h => ∃ v_18, r_19 = v_18 ∧ st1 (⟨r_4, 0, none⟩ : Addr) (Value.int .i64 0) (fun h => st1 (⟨r_4, 1, none⟩ : Addr) (Value.int .i64 0) (fun h => st1 (⟨r_4, 2, none⟩ : Addr) (Value.int .i64 0) (fun h => st1 (⟨r_4, 3, none⟩ : Addr) (Value.int .i64 0) (fun h => st1 (⟨r_4, 4, none⟩ : Addr) (Value.int .i64 0) (fun h => st1 (⟨r_4, 5, none⟩ : Addr) (Value.int .u8 0) (fun h => st1 (⟨r_4, 6, none⟩ : Addr) (Value.int .i64 0) (fun h => st1 (⟨r_4, 7, none⟩ : Addr) (Value.int .i64 0) (fun h => (LdI G h .i64 (⟨r_4, 0, none⟩ : Addr) fun n_20 => LdI G h .i64 (⟨r_4, 1, none⟩ : Addr) fun n_21 => LdI G h .i64 (⟨r_4, 2, none⟩ : Addr) fun n_22 => LdI G h .i64 (⟨r_4, 3, none⟩ : Addr) fun n_23 => LdI G h .i64 (⟨r_4, 4, none⟩ : Addr) fun n_24 => LdI G h .u8 (⟨r_4, 5, none⟩ : Addr) fun n_25 => LdI G h .i64 (⟨r_4, 6, none⟩ : Addr) fun n_26 => LdI G h .i64 (⟨r_4, 7, none⟩ : Addr) fun n_27 => K (Value.tuple #[(Value.agg #[(Value.int .i64 n_20), (Value.int .i64 n_21), (Value.int .i64 n_22), (Value.int .i64 n_23), (Value.int .i64 n_24), (Value.int .u8 n_25), (Value.int .i64 n_26), (Value.int .i64 n_27)]), v_18]) h)) h) h) h) h) h) h) h) h) Kp h) ((Rq ((0 : Int) ≤ (IntKind.wrap .i64 n_16) ∧ (IntKind.wrap .i64 n_16) < ((3 : Nat) : Int)) (LdSl G h (Addr.add (⟨0, 0, none⟩ : Addr) (Int.toNat (IntKind.wrap .i64 n_16) * 1)) fun xa_28 xl_29 xc_30 => CallF Tryz.prog G 162 #[(Value.slice xa_28 xl_29 xc_30)] (fun r_32 h => ∃ n_31, r_32 = (Value.int .i64 n_31) ∧ (If (((bl_2 : Nat) : Int) != n_31) (CallF Tryz.prog G 43 #[(Value.int .i64 ((bl_2 : Nat) : Int)), (Value.int .i64 62)] (fun r_34 h => ∃ v_33, r_34 = v_33 ∧ st1 (⟨r_4, 0, none⟩ : Addr) (Value.int .i64 0) (fun h => st1 (⟨r_4, 1, none⟩ : Addr) (Value.int .i64 0) (fun h => st1 (⟨r_4, 2, none⟩ : Addr) (Value.int .i64 0) (fun h => st1 (⟨r_4, 3, none⟩ : Addr) (Value.int .i64 0) (fun h => st1 (⟨r_4, 4, none⟩ : Addr) (Value.int .i64 0) (fun h => st1 (⟨r_4, 5, none⟩ : Addr) (Value.int .u8 0) (fun h => st1 (⟨r_4, 6, none⟩ : Addr) (Value.int .i64 0) (fun h => st1 (⟨r_4, 7, none⟩ : Addr) (Value.int .i64 0) (fun h => (LdI G h .i64 (⟨r_4, 0, none⟩ : Addr) fun n_35 => LdI G h .i64 (⟨r_4, 1, none⟩ : Addr) fun n_36 => LdI G h .i64 (⟨r_4, 2, none⟩ : Addr) fun n_37 => LdI G h .i64 (⟨r_4, 3, none⟩ : Addr) fun n_38 => LdI G h .i64 (⟨r_4, 4, none⟩ : Addr) fun n_39 => LdI G h .u8 (⟨r_4, 5, none⟩ : Addr) fun n_40 => LdI G h .i64 (⟨r_4, 6, none⟩ : Addr) fun n_41 => LdI G h .i64 (⟨r_4, 7, none⟩ : Addr) fun n_42 => K (Value.tuple #[(Value.agg #[(Value.int .i64 n_35), (Value.int .i64 n_36), (Value.int .i64 n_37), (Value.int .i64 n_38), (Value.int .i64 n_39), (Value.int .u8 n_40), (Value.int .i64 n_41), (Value.int .i64 n_42)]), v_33]) h)) h) h) h) h) h) h) h) h) Kp h) ((Rq ((0 : Int) ≤ (IntKind.wrap .i64 n_16) ∧ (IntKind.wrap .i64 n_16) < ((3 : Nat) : Int)) (LdSl G h (Addr.add (⟨0, 0, none⟩ : Addr) (Int.toNat (IntKind.wrap .i64 n_16) * 1)) fun xa_43 xl_44 xc_45 => CallF Tryz.prog G 163 #[(Value.slice ba_1 bl_2 bc_3), (Value.slice xa_43 xl_44 xc_45), (Value.bool false)] (fun r_62 h => ∃ n_46 n_47 n_48 n_49 n_50 n_51 n_52 n_53 n_54 n_55 n_56 n_57 n_58 n_59 v_60, r_62 = (Value.tuple #[(Value.agg #[(Value.int .i64 n_46), (Value.int .i64 n_47), (Value.int .i64 n_48), (Value.int .i64 n_49), (Value.int .i64 n_50), (Value.int .i64 n_51), (Value.int .i64 n_52), (Value.int .i64 n_53), (Value.int .i64 n_54), (Value.int .i64 n_55), (Value.int .i64 n_56), (Value.int .i64 n_57), (Value.int .i64 n_58), (Value.int .i64 n_59)]), v_60]) ∧ newK G (.cells #[(Value.int .i64 0), (Value.int .i64 0), (Value.int .i64 0), (Value.int .i64 0), (Value.int .i64 0), (Value.int .i64 0), (Value.int .i64 0), (Value.int .i64 0), (Value.int .i64 0), (Value.int .i64 0), (Value.int .i64 0), (Value.int .i64 0), (Value.int .i64 0), (Value.int .i64 0)] 202) (fun r_61 h => st1 (⟨r_61, 0, none⟩ : Addr) (Value.int .i64 n_46) (fun h => st1 (⟨r_61, 1, none⟩ : Addr) (Value.int .i64 n_47) (fun h => st1 (⟨r_61, 2, none⟩ : Addr) (Value.int .i64 n_48) (fun h => st1 (⟨r_61, 3, none⟩ : Addr) (Value.int .i64 n_49) (fun h => st1 (⟨r_61, 4, none⟩ : Addr) (Value.int .i64 n_50) (fun h => st1 (⟨r_61, 5, none⟩ : Addr) (Value.int .i64 n_51) (fun h => st1 (⟨r_61, 6, none⟩ : Addr) (Value.int .i64 n_52) (fun h => st1 (⟨r_61, 7, none⟩ : Addr) (Value.int .i64 n_53) (fun h => st1 (⟨r_61, 8, none⟩ : Addr) (Value.int .i64 n_54) (fun h => st1 (⟨r_61, 9, none⟩ : Addr) (Value.int .i64 n_55) (fun h => st1 (⟨r_61, 10, none⟩ : Addr) (Value.int .i64 n_56) (fun h => st1 (⟨r_61, 11, none⟩ : Addr) (Value.int .i64 n_57) (fun h => st1 (⟨r_61, 12, none⟩ : Addr) (Value.int .i64 n_58) (fun h => st1 (⟨r_61, 13, none⟩ : Addr) (Value.int .i64 n_59) (fun h => (Rq (IsI v_60) ((If (!(isNilI v_60)) (st1 (⟨r_4, 0, none⟩ : Addr) (Value.int .i64 0) (fun h => st1 (⟨r_4, 1, none⟩ : Addr) (Value.int .i64 0) (fun h => st1 (⟨r_4, 2, none⟩ : Addr) (Value.int .i64 0) (fun h => st1 (⟨r_4, 3, none⟩ : Addr) (Value.int .i64 0) (fun h => st1 (⟨r_4, 4, none⟩ : Addr) (Value.int .i64 0) (fun h => st1 (⟨r_4, 5, none⟩ : Addr) (Value.int .u8 0) (fun h => st1 (⟨r_4, 6, none⟩ : Addr) (Value.int .i64 0) (fun h => st1 (⟨r_4, 7, none⟩ : Addr) (Value.int .i64 0) (fun h => (LdI G h .i64 (⟨r_4, 0, none⟩ : Addr) fun n_63 => LdI G h .i64 (⟨r_4, 1, none⟩ : Addr) fun n_64 => LdI G h .i64 (⟨r_4, 2, none⟩ : Addr) fun n_65 => LdI G h .i64 (⟨r_4, 3, none⟩ : Addr) fun n_66 => LdI G h .i64 (⟨r_4, 4, none⟩ : Addr) fun n_67 => LdI G h .u8 (⟨r_4, 5, none⟩ : Addr) fun n_68 => LdI G h .i64 (⟨r_4, 6, none⟩ : Addr) fun n_69 => LdI G h .i64 (⟨r_4, 7, none⟩ : Addr) fun n_70 => K (Value.tuple #[(Value.agg #[(Value.int .i64 n_63), (Value.int .i64 n_64), (Value.int .i64 n_65), (Value.int .i64 n_66), (Value.int .i64 n_67), (Value.int .u8 n_68), (Value.int .i64 n_69), (Value.int .i64 n_70)]), v_60]) h)) h) h) h) h) h) h) h) h) ((Rq ((0 : Int) ≤ 1 ∧ 1 < ((14 : Nat) : Int)) (LdI G h .i64 (⟨r_61, 1, none⟩ : Addr) fun n_71 => Rq ((0 : Int) ≤ 8 ∧ 8 < ((14 : Nat) : Int)) (LdI G h .i64 (⟨r_61, 8, none⟩ : Addr) fun n_72 => CallF Tryz.prog G 164 #[(Value.pointer (some (⟨r_61, 0, none⟩ : Addr)))] (fun r_78 h => ∃ n_73 n_74 n_75 n_76 n_77, r_78 = (Value.agg #[(Value.int .i64 n_73), (Value.int .i64 n_74), (Value.int .u8 n_75), (Value.int .i64 n_76), (Value.int .i64 n_77)]) ∧ hcell (rd G h) (⟨r_61, 8, none⟩ : Addr) = some (Value.int .i64 n_72) ∧ hcell (rd G h) (⟨r_61, 1, none⟩ : Addr) = some (Value.int .i64 n_71) ∧ st1 (⟨r_4, 0, none⟩ : Addr) (Value.int .i64 (IntKind.wrap .i64 n_16)) (fun h => st1 (⟨r_4, 1, none⟩ : Addr) (Value.int .i64 n_71) (fun h => st1 (⟨r_4, 2, none⟩ : Addr) (Value.int .i64 n_72) (fun h => st1 (⟨r_4, 3, none⟩ : Addr) (Value.int .i64 n_73) (fun h => st1 (⟨r_4, 4, none⟩ : Addr) (Value.int .i64 n_74) (fun h => st1 (⟨r_4, 5, none⟩ : Addr) (Value.int .u8 n_75) (fun h => st1 (⟨r_4, 6, none⟩ : Addr) (Value.int .i64 n_76) (fun h => st1 (⟨r_4, 7, none⟩ : Addr) (Value.int .i64 n_77) (fun h => (LdI G h .i64 (⟨r_4, 0, none⟩ : Addr) fun n_79 => LdI G h .i64 (⟨r_4, 1, none⟩ : Addr) fun n_80 => LdI G h .i64 (⟨r_4, 2, none⟩ : Addr) fun n_81 => LdI G h .i64 (⟨r_4, 3, none⟩ : Addr) fun n_82 => LdI G h .i64 (⟨r_4, 4, none⟩ : Addr) fun n_83 => LdI G h .u8 (⟨r_4, 5, none⟩ : Addr) fun n_84 => LdI G h .i64 (⟨r_4, 6, none⟩ : Addr) fun n_85 => LdI G h .i64 (⟨r_4, 7, none⟩ : Addr) fun n_86 => K (Value.tuple #[(Value.agg #[(Value.int .i64 n_79), (Value.int .i64 n_80), (Value.int .i64 n_81), (Value.int .i64 n_82), (Value.int .i64 n_83), (Value.int .u8 n_84), (Value.int .i64 n_85), (Value.int .i64 n_86)]), Value.nilIface]) h)) h) h) h) h) h) h) h) h) Kp h)))))))) h) h) h) h) h) h) h) h) h) h) h) h) h) h) h) Kp h))))) Kp h)))
def S130 (G : Heap) (K : Value → Heap → Prop) (Kp : PK) (ba_1 : Option Addr) (bl_2 : Nat) (bc_3 : Nat) (h : Heap) : Prop :=
  newK G (.cells #[(Value.int .i64 0), (Value.int .i64 0), (Value.int .i64 0), (Value.int .i64 0), (Value.int .i64 0), (Value.int .u8 0), (Value.int .i64 0), (Value.int .i64 0)] 154) (fun r_4 h => ((If (((bl_2 : Nat) : Int) == 0) (CallF Tryz.prog G 43 #[(Value.int .i64 0), (Value.int .i64 62)] (fun r_6 h => ∃ v_5, r_6 = v_5 ∧ st1 (⟨r_4, 0, none⟩ : Addr) (Value.int .i64 0) (fun h => st1 (⟨r_4, 1, none⟩ : Addr) (Value.int .i64 0) (fun h => st1 (⟨r_4, 2, none⟩ : Addr) (Value.int .i64 0) (fun h => st1 (⟨r_4, 3, none⟩ : Addr) (Value.int .i64 0) (fun h => st1 (⟨r_4, 4, none⟩ : Addr) (Value.int .i64 0) (fun h => st1 (⟨r_4, 5, none⟩ : Addr) (Value.int .u8 0) (fun h => st1 (⟨r_4, 6, none⟩ : Addr) (Value.int .i64 0) (fun h => st1 (⟨r_4, 7, none⟩ : Addr) (Value.int .i64 0) (fun h => (LdI G h .i64 (⟨r_4, 0, none⟩ : Addr) fun n_7 => LdI G h .i64 (⟨r_4, 1, none⟩ : Addr) fun n_8 => LdI G h .i64 (⟨r_4, 2, none⟩ : Addr) fun n_9 => LdI G h .i64 (⟨r_4, 3, none⟩ : Addr) fun n_10 => LdI G h .i64 (⟨r_4, 4, none⟩ : Addr) fun n_11 => LdI G h .u8 (⟨r_4, 5, none⟩ : Addr) fun n_12 => LdI G h .i64 (⟨r_4, 6, none⟩ : Addr) fun n_13 => LdI G h .i64 (⟨r_4, 7, none⟩ : Addr) fun n_14 => K (Value.tuple #[(Value.agg #[(Value.int .i64 n_7), (Value.int .i64 n_8), (Value.int .i64 n_9), (Value.int .i64 n_10), (Value.int .i64 n_11), (Value.int .u8 n_12), (Value.int .i64 n_13), (Value.int .i64 n_14)]), v_5]) h)) h) h) h) h) h) h) h) h) Kp h) ((Rq ((0 : Int) ≤ 0 ∧ 0 < ((bl_2 : Nat) : Int)) (NN ba_1 fun a_15 => LdI G h .u8 a_15 fun n_16 => (If (decide ((IntKind.wrap .i64 n_16) < 1)) ((S130_k1 G K Kp r_4 n_16 bl_2 ba_1 bc_3 true h)) ((S130_k1 G K Kp r_4 n_16 bl_2 ba_1 bc_3 (decide ((IntKind.wrap .i64 n_16) > 2)) h))))))))) h
noncomputable def E130 : TE := mkE [R3, R5, R23, R49, R78, R84, R154, R202, R204, R304] false (.any)
theorem T130 : TOk Tryz.prog E130 := mkE_ok (AllOk.mem (⟨R3_ok, R5_ok, R23_ok, R49_ok, R78_ok, R84_ok, R154_ok, R202_ok, R204_ok, R304_ok, trivial⟩ : AllOk Tryz.prog [R3, R5, R23, R49, R78, R84, R154, R202, R204, R304]))
def ann130 : Nat → LAnn := fun _ => ⟨[], []⟩
theorem vc130 {G : Heap} {K : Value → Heap → Prop} {Kp : PK} {ba_1 : Option Addr} {bl_2 : Nat} {bc_3 : Nat} {h : Heap} :
    S130 G K Kp ba_1 bl_2 bc_3 h = vcC E130 Tryz.prog G 54 ann130 Kp (bodyOf Tryz.f130) (retQ E130 G Tryz.f130.results.toList K) (frmA (#[(Value.slice ba_1 bl_2 bc_3)] : Array Value).toList 0) h := by kernel_rfl
theorem b130 : bOk Tryz.prog 130 Tryz.f130 54 ann130 = true := by kernel_rfl
set_option maxRecDepth 100000 in
theorem S130_ok {G : Heap} {K : Value → Heap → Prop} {Kp : PK} {ba_1 : Option Addr} {bl_2 : Nat} {bc_3 : Nat} {h : Heap} (hh : S130 G K Kp ba_1 bl_2 bc_3 h) :
    CallF Tryz.prog G 130 #[(Value.slice ba_1 bl_2 bc_3)] K Kp h :=
  callF_b T130 hmix Tryz.func130 Tryz.ntmps130 b130 (by kernel_rfl) (Eq.mp vc130 hh)
def ann7 : Nat → LAnn := fun k => (bif Nat.beq k 17 then ⟨[(16, .int .i64), (17, .int .i64)], [73, 74, 75, 76, 77, 78, 79, 80, 81, 82, 83, 84, 85, 86, 87, 88, 89, 90, 91, 92, 93, 94, 95, 96, 97, 98, 99]⟩ else (bif Nat.beq k 10 then ⟨[(8, .int .i64), (9, .int .i64), (10, .int .i64), (11, .int .i64)], [2, 12, 13, 14, 15, 16, 17, 40, 41, 42, 43, 44, 45, 46, 47, 48, 49, 50, 51, 52, 53, 54, 55, 56, 57, 58, 59, 60, 61, 62, 63, 64, 65, 66, 67, 68, 69, 70, 71, 72, 73, 74, 75, 76, 77, 78, 79, 80, 81, 82, 83, 84, 85, 86, 87, 88, 89, 90, 91, 92, 93, 94, 95, 96, 97, 98, 99, 100, 101, 102, 103, 104, 105, 106, 107, 108, 109, 110, 111]⟩ else (bif Nat.beq k 6 then ⟨[(6, .int .i64), (7, .int .i64)], [2, 8, 9, 10, 11, 12, 13, 14, 15, 16, 17, 18, 31, 32, 33, 34, 35, 36, 37, 38, 39, 40, 41, 42, 43, 44, 45, 46, 47, 48, 49, 50, 51, 52, 53, 54, 55, 56, 57, 58, 59, 60, 61, 62, 63, 64, 65, 66, 67, 68, 69, 70, 71, 72, 73, 74, 75, 76, 77, 78, 79, 80, 81, 82, 83, 84, 85, 86, 87, 88, 89, 90, 91, 92, 93, 94, 95, 96, 97, 98, 99, 100, 101, 102, 103, 104, 105, 106, 107, 108, 109, 110, 111, 112, 113, 114, 115, 116, 117, 118, 119, 120, 121, 122, 123, 124, 125, 126, 127, 128, 129, 130, 131, 132, 133, 134, 135, 136, 137, 138, 139, 140, 141, 142, 143, 144, 145, 146, 147, 148, 149, 150, 151, 152, 153, 154, 155, 156, 157, 158, 159, 160]⟩ else ⟨[], []⟩)))
theorem b7 : bOk Tryz.prog 7 Tryz.f7 176 ann7 = true := by kernel_rfl
def S55_k1 (G : Heap) (K : Value → Heap → Prop) (Kp : PK) (r_9 : Nat) (r_8 : Nat) (b_1 : Option Addr) (err_38 : Value) (h : Heap) : Prop :=
  Rq (IsI err_38) ((If (!(isNilI err_38)) (CallF Tryz.prog G 72 #[err_38] (fun r_40 h => ∃ n_39, r_40 = (Value.int .i64 n_39) ∧ st1 (⟨r_9, 0, none⟩ : Addr) (Value.int .i64 0) (fun h => st1 (⟨r_9, 1, none⟩ : Addr) (Value.int .i64 0) (fun h => st1 (⟨r_9, 2, none⟩ : Addr) (Value.int .u8 0) (fun h => st1 (⟨r_9, 3, none⟩ : Addr) (Value.int .i64 0) (fun h => st1 (⟨r_9, 4, none⟩ : Addr) (Value.int .i64 0) (fun h => (LdI G h .i64 (⟨r_9, 0, none⟩ : Addr) fun n_41 => LdI G h .i64 (⟨r_9, 1, none⟩ : Addr) fun n_42 => LdI G h .u8 (⟨r_9, 2, none⟩ : Addr) fun n_43 => LdI G h .i64 (⟨r_9, 3, none⟩ : Addr) fun n_44 => LdI G h .i64 (⟨r_9, 4, none⟩ : Addr) fun n_45 => K (Value.tuple #[(Value.int .i64 0), (Value.agg #[(Value.int .i64 n_41), (Value.int .i64 n_42), (Value.int .u8 n_43), (Value.int .i64 n_44), (Value.int .i64 n_45)]), (Value.int .i64 n_39)]) h)) h) h) h) h) h) Kp h) ((LdI G h .i64 (⟨r_8, 0, none⟩ : Addr) fun n_46 => LdI G h .i64 (⟨r_8, 1, none⟩ : Addr) fun n_47 => LdI G h .i64 (⟨r_8, 2, none⟩ : Addr) fun n_48 => LdI G h .u8 (⟨r_8, 3, none⟩ : Addr) fun n_49 => LdI G h .i64 (⟨r_8, 4, none⟩ : Addr) fun n_50 => LdI G h .i64 (⟨r_8, 5, none⟩ : Addr) fun n_51 => CallF Tryz.prog G 80 #[(Value.pointer b_1), (Value.agg #[(Value.int .i64 n_46), (Value.int .i64 n_47), (Value.int .i64 n_48), (Value.int .u8 n_49), (Value.int .i64 n_50), (Value.int .i64 n_51)])] (fun r_52 h => r_52 = (Value.tuple #[]) ∧ (NN b_1 fun a_53 => LdSl G h (ad a_53 3) fun xa_54 xl_55 xc_56 => NN b_1 fun a_57 => LdSl G h (ad a_57 4) fun xa_58 xl_59 xc_60 => NN b_1 fun a_61 => LdSl G h (ad a_61 4) fun xa_62 xl_63 xc_64 => Rng (((xl_63 : Nat) : Int) - 1) (Rq ((0 : Int) ≤ (((xl_63 : Nat) : Int) - 1) ∧ (((xl_63 : Nat) : Int) - 1) < ((xl_59 : Nat) : Int)) (NN xa_58 fun a_65 => LdI G h .i64 (Addr.add a_65 (Int.toNat (((xl_63 : Nat) : Int) - 1) * 5)) fun n_66 => LdI G h .i64 (ad (Addr.add a_65 (Int.toNat (((xl_63 : Nat) : Int) - 1) * 5)) 1) fun n_67 => LdI G h .u8 (ad (Addr.add a_65 (Int.toNat (((xl_63 : Nat) : Int) - 1) * 5)) 2) fun n_68 => LdI G h .i64 (ad (Addr.add a_65 (Int.toNat (((xl_63 : Nat) : Int) - 1) * 5)) 3) fun n_69 => LdI G h .i64 (ad (Addr.add a_65 (Int.toNat (((xl_63 : Nat) : Int) - 1) * 5)) 4) fun n_70 => st1 (⟨r_9, 0, none⟩ : Addr) (Value.int .i64 n_66) (fun h => st1 (⟨r_9, 1, none⟩ : Addr) (Value.int .i64 n_67) (fun h => st1 (⟨r_9, 2, none⟩ : Addr) (Value.int .u8 n_68) (fun h => st1 (⟨r_9, 3, none⟩ : Addr) (Value.int .i64 n_69) (fun h => st1 (⟨r_9, 4, none⟩ : Addr) (Value.int .i64 n_70) (fun h => (LdI G h .i64 (⟨r_9, 0, none⟩ : Addr) fun n_71 => LdI G h .i64 (⟨r_9, 1, none⟩ : Addr) fun n_72 => LdI G h .u8 (⟨r_9, 2, none⟩ : Addr) fun n_73 => LdI G h .i64 (⟨r_9, 3, none⟩ : Addr) fun n_74 => LdI G h .i64 (⟨r_9, 4, none⟩ : Addr) fun n_75 => K (Value.tuple #[(Value.int .i64 ((xl_55 : Nat) : Int)), (Value.agg #[(Value.int .i64 n_71), (Value.int .i64 n_72), (Value.int .u8 n_73), (Value.int .i64 n_74), (Value.int .i64 n_75)]), (Value.int .i64 0)]) h)) h) h) h) h) h)))) Kp h))))
def S55 (G : Heap) (K : Value → Heap → Prop) (Kp : PK) (b_1 : Option Addr) (e_2 : Int) (e_3 : Int) (e_4 : Int) (e_5 : Int) (e_6 : Int) (e_7 : Int) (h : Heap) : Prop :=
  newK G (.cells #[(Value.int .i64 e_2), (Value.int .i64 e_3), (Value.int .i64 e_4), (Value.int .u8 e_5), (Value.int .i64 e_6), (Value.int .i64 e_7)] 124) (fun r_8 h => newK G (.cells #[(Value.int .i64 0), (Value.int .i64 0), (Value.int .u8 0), (Value.int .i64 0), (Value.int .i64 0)] 84) (fun r_9 h => (LdI G h .i64 (⟨r_8, 0, none⟩ : Addr) fun n_10 => LdI G h .i64 (⟨r_8, 1, none⟩ : Addr) fun n_11 => LdI G h .i64 (⟨r_8, 2, none⟩ : Addr) fun n_12 => LdI G h .u8 (⟨r_8, 3, none⟩ : Addr) fun n_13 => LdI G h .i64 (⟨r_8, 4, none⟩ : Addr) fun n_14 => LdI G h .i64 (⟨r_8, 5, none⟩ : Addr) fun n_15 => CallF Tryz.prog G 79 #[(Value.pointer b_1), (Value.agg #[(Value.int .i64 n_10), (Value.int .i64 n_11), (Value.int .i64 n_12), (Value.int .u8 n_13), (Value.int .i64 n_14), (Value.int .i64 n_15)])] (fun r_17 h => ∃ n_16, r_17 = (Value.int .i64 n_16) ∧ ((If (n_16 != 0) (st1 (⟨r_9, 0, none⟩ : Addr) (Value.int .i64 0) (fun h => st1 (⟨r_9, 1, none⟩ : Addr) (Value.int .i64 0) (fun h => st1 (⟨r_9, 2, none⟩ : Addr) (Value.int .u8 0) (fun h => st1 (⟨r_9, 3, none⟩ : Addr) (Value.int .i64 0) (fun h => st1 (⟨r_9, 4, none⟩ : Addr) (Value.int .i64 0) (fun h => (LdI G h .i64 (⟨r_9, 0, none⟩ : Addr) fun n_18 => LdI G h .i64 (⟨r_9, 1, none⟩ : Addr) fun n_19 => LdI G h .u8 (⟨r_9, 2, none⟩ : Addr) fun n_20 => LdI G h .i64 (⟨r_9, 3, none⟩ : Addr) fun n_21 => LdI G h .i64 (⟨r_9, 4, none⟩ : Addr) fun n_22 => K (Value.tuple #[(Value.int .i64 0), (Value.agg #[(Value.int .i64 n_18), (Value.int .i64 n_19), (Value.int .u8 n_20), (Value.int .i64 n_21), (Value.int .i64 n_22)]), (Value.int .i64 n_16)]) h)) h) h) h) h) h) ((LdI G h .i64 (⟨r_8, 0, none⟩ : Addr) fun n_23 => LdI G h .i64 (⟨r_8, 1, none⟩ : Addr) fun n_24 => LdI G h .i64 (⟨r_8, 2, none⟩ : Addr) fun n_25 => LdI G h .u8 (⟨r_8, 3, none⟩ : Addr) fun n_26 => LdI G h .i64 (⟨r_8, 4, none⟩ : Addr) fun n_27 => LdI G h .i64 (⟨r_8, 5, none⟩ : Addr) fun n_28 => CallF Tryz.prog G 70 #[(Value.agg #[(Value.int .i64 2), (Value.int .i64 0), (Value.int .i64 n_23), (Value.int .i64 n_24), (Value.int .i64 n_25), (Value.int .u8 n_26), (Value.int .i64 n_27), (Value.int .i64 n_28)])] (fun r_33 h => ∃ xa_29 xl_30 xc_31 v_32, r_33 = (Value.tuple #[(Value.slice xa_29 xl_30 xc_31), v_32]) ∧ (Rq (IsI v_32) ((If (isNilI v_32) (NN b_1 fun a_34 => LdP G h a_34 fun p_35 => CallF Tryz.prog G 71 #[(Value.pointer p_35), (Value.slice xa_29 xl_30 xc_31)] (fun r_37 h => ∃ v_36, r_37 = v_36 ∧ (S55_k1 G K Kp r_9 r_8 b_1 v_36 h)) Kp h) ((S55_k1 G K Kp r_9 r_8 b_1 v_32 h)))))) Kp h))))) Kp h)) h) h
noncomputable def E55 : TE := mkE [R0, R3, R5, R33, R37, R40, R78, R84, R124, R127, R131, R151, R154] false (.any)
theorem T55 : TOk Tryz.prog E55 := mkE_ok (AllOk.mem (⟨R0_ok, R3_ok, R5_ok, R33_ok, R37_ok, R40_ok, R78_ok, R84_ok, R124_ok, R127_ok, R131_ok, R151_ok, R154_ok, trivial⟩ : AllOk Tryz.prog [R0, R3, R5, R33, R37, R40, R78, R84, R124, R127, R131, R151, R154]))
def ann55 : Nat → LAnn := fun _ => ⟨[], []⟩
theorem vc55 {G : Heap} {K : Value → Heap → Prop} {Kp : PK} {b_1 : Option Addr} {e_2 : Int} {e_3 : Int} {e_4 : Int} {e_5 : Int} {e_6 : Int} {e_7 : Int} {h : Heap} :
    S55 G K Kp b_1 e_2 e_3 e_4 e_5 e_6 e_7 h = vcC E55 Tryz.prog G 59 ann55 Kp (bodyOf Tryz.f55) (retQ E55 G Tryz.f55.results.toList K) (frmA (#[(Value.pointer b_1), (Value.agg #[(Value.int .i64 e_2), (Value.int .i64 e_3), (Value.int .i64 e_4), (Value.int .u8 e_5), (Value.int .i64 e_6), (Value.int .i64 e_7)])] : Array Value).toList 0) h := by kernel_rfl
theorem b55 : bOk Tryz.prog 55 Tryz.f55 59 ann55 = true := by kernel_rfl
set_option maxRecDepth 100000 in
theorem S55_ok {G : Heap} {K : Value → Heap → Prop} {Kp : PK} {b_1 : Option Addr} {e_2 : Int} {e_3 : Int} {e_4 : Int} {e_5 : Int} {e_6 : Int} {e_7 : Int} {h : Heap} (hh : S55 G K Kp b_1 e_2 e_3 e_4 e_5 e_6 e_7 h) :
    CallF Tryz.prog G 55 #[(Value.pointer b_1), (Value.agg #[(Value.int .i64 e_2), (Value.int .i64 e_3), (Value.int .i64 e_4), (Value.int .u8 e_5), (Value.int .i64 e_6), (Value.int .i64 e_7)])] K Kp h :=
  callF_b T55 hmix Tryz.func55 Tryz.ntmps55 b55 (by kernel_rfl) (Eq.mp vc55 hh)
def S135_k2 (G : Heap) (K : Value → Heap → Prop) (Kp : PK) (r_16 : Nat) (c_1 : Option Addr) (t27_31 : Bool) (h : Heap) : Prop :=
  If t27_31 ((K (Value.int .i64 114) h)) (LdI G h .i64 (⟨r_16, 0, none⟩ : Addr) fun n_32 => (If (n_32 == 4) ((K (Value.int .i64 0) h)) (LdI G h .i64 (⟨r_16, 6, none⟩ : Addr) fun n_33 => NN c_1 fun a_34 => LdP G h a_34 fun p_35 => CallF Tryz.prog G 168 #[(Value.pointer p_35)] (fun r_37 h => ∃ n_36, r_37 = (Value.int .i64 n_36) ∧ hcell (rd G h) (⟨r_16, 6, none⟩ : Addr) = some (Value.int .i64 n_33) ∧ (If (decide (n_33 > n_36)) ((K (Value.int .i64 82) h)) (LdI G h .i64 (⟨r_16, 0, none⟩ : Addr) fun n_38 => (If (n_38 == 6) ((K (Value.int .i64 0) h)) (LdI G h .i64 (⟨r_16, 7, none⟩ : Addr) fun n_39 => NN c_1 fun a_40 => LdI G h .i64 (ad a_40 7) fun n_41 => LdI G h .i64 (⟨r_16, 5, none⟩ : Addr) fun n_42 => Rng (n_41 + n_42) ((If (n_39 != (n_41 + n_42)) ((K (Value.int .i64 115) h)) (LdI G h .i64 (⟨r_16, 5, none⟩ : Addr) fun n_43 => NN c_1 fun a_44 => LdP G h (ad a_44 1) fun p_45 => CallF Tryz.prog G 169 #[(Value.pointer p_45)] (fun r_47 h => ∃ n_46, r_47 = (Value.int .i64 n_46) ∧ hcell (rd G h) (⟨r_16, 5, none⟩ : Addr) = some (Value.int .i64 n_43) ∧ Rng (n_46 + 8) ((If (decide (n_43 > (n_46 + 8))) ((K (Value.int .i64 93) h)) (LdI G h .i64 (⟨r_16, 5, none⟩ : Addr) fun n_48 => NN c_1 fun a_49 => LdP G h (ad a_49 1) fun p_50 => CallF Tryz.prog G 169 #[(Value.pointer p_50)] (fun r_52 h => ∃ n_51, r_52 = (Value.int .i64 n_51) ∧ hcell (rd G h) (⟨r_16, 5, none⟩ : Addr) = some (Value.int .i64 n_48) ∧ Rng (n_51 + 1) ((If (n_48 == (n_51 + 1)) (LdI G h .i64 (⟨r_16, 9, none⟩ : Addr) fun n_53 => LdI G h .i64 (⟨r_16, 10, none⟩ : Addr) fun n_54 => LdI G h .u8 (⟨r_16, 11, none⟩ : Addr) fun n_55 => LdI G h .i64 (⟨r_16, 12, none⟩ : Addr) fun n_56 => LdI G h .i64 (⟨r_16, 13, none⟩ : Addr) fun n_57 => CallF Tryz.prog G 170 #[(Value.pointer c_1), (Value.agg #[(Value.int .i64 n_53), (Value.int .i64 n_54), (Value.int .u8 n_55), (Value.int .i64 n_56), (Value.int .i64 n_57)])] (fun r_59 h => ∃ n_58, r_59 = (Value.int .i64 n_58) ∧ (K (Value.int .i64 n_58) h)) Kp h) (((K (Value.int .i64 0) h)))))) Kp h)))) Kp h)))))))) Kp h)))
def S135_k1 (G : Heap) (K : Value → Heap → Prop) (Kp : PK) (r_16 : Nat) (c_1 : Option Addr) (t5_20 : Bool) (h : Heap) : Prop :=
  If t5_20 ((K (Value.int .i64 112) h)) (LdI G h .i64 (⟨r_16, 2, none⟩ : Addr) fun n_21 => NN c_1 fun a_22 => LdI G h .i64 (ad a_22 3) fun n_23 => (If (n_21 != n_23) ((K (Value.int .i64 113) h)) (LdI G h .i64 (⟨r_16, 1, none⟩ : Addr) fun n_24 => NN c_1 fun a_25 => LdI G h .i64 (ad a_25 4) fun n_26 => If (decide (n_24 < n_26)) ((S135_k2 G K Kp r_16 c_1 true h)) (LdI G h .i64 (⟨r_16, 0, none⟩ : Addr) fun n_27 => If (n_27 != 4) (LdI G h .i64 (⟨r_16, 1, none⟩ : Addr) fun n_28 => NN c_1 fun a_29 => LdI G h .i64 (ad a_29 4) fun n_30 => (S135_k2 G K Kp r_16 c_1 (n_28 != n_30) h)) ((S135_k2 G K Kp r_16 c_1 false h))))))
def S135 (G : Heap) (K : Value → Heap → Prop) (Kp : PK) (c_1 : Option Addr) (m_2 : Int) (m_3 : Int) (m_4 : Int) (m_5 : Int) (m_6 : Int) (m_7 : Int) (m_8 : Int) (m_9 : Int) (m_10 : Int) (m_11 : Int) (m_12 : Int) (m_13 : Int) (m_14 : Int) (m_15 : Int) (h : Heap) : Prop :=
  newK G (.cells #[(Value.int .i64 m_2), (Value.int .i64 m_3), (Value.int .i64 m_4), (Value.int .i64 m_5), (Value.int .i64 m_6), (Value.int .i64 m_7), (Value.int .i64 m_8), (Value.int .i64 m_9), (Value.int .i64 m_10), (Value.int .i64 m_11), (Value.int .i64 m_12), (Value.int .u8 m_13), (Value.int .i64 m_14), (Value.int .i64 m_15)] 150) (fun r_16 h => (LdI G h .i64 (⟨r_16, 0, none⟩ : Addr) fun n_17 => If (n_17 == 1) ((S135_k1 G K Kp r_16 c_1 true h)) (LdI G h .i64 (⟨r_16, 0, none⟩ : Addr) fun n_18 => If (n_18 == 2) ((S135_k1 G K Kp r_16 c_1 true h)) (LdI G h .i64 (⟨r_16, 0, none⟩ : Addr) fun n_19 => (S135_k1 G K Kp r_16 c_1 (n_19 == 3) h))))) h
noncomputable def E135 : TE := mkE [R3, R40, R84, R150, R185, R188, R192, R199] false (.any)
theorem T135 : TOk Tryz.prog E135 := mkE_ok (AllOk.mem (⟨R3_ok, R40_ok, R84_ok, R150_ok, R185_ok, R188_ok, R192_ok, R199_ok, trivial⟩ : AllOk Tryz.prog [R3, R40, R84, R150, R185, R188, R192, R199]))
def ann135 : Nat → LAnn := fun _ => ⟨[], []⟩
theorem vc135 {G : Heap} {K : Value → Heap → Prop} {Kp : PK} {c_1 : Option Addr} {m_2 : Int} {m_3 : Int} {m_4 : Int} {m_5 : Int} {m_6 : Int} {m_7 : Int} {m_8 : Int} {m_9 : Int} {m_10 : Int} {m_11 : Int} {m_12 : Int} {m_13 : Int} {m_14 : Int} {m_15 : Int} {h : Heap} :
    S135 G K Kp c_1 m_2 m_3 m_4 m_5 m_6 m_7 m_8 m_9 m_10 m_11 m_12 m_13 m_14 m_15 h = vcC E135 Tryz.prog G 104 ann135 Kp (bodyOf Tryz.f135) (retQ E135 G Tryz.f135.results.toList K) (frmA (#[(Value.pointer c_1), (Value.agg #[(Value.int .i64 m_2), (Value.int .i64 m_3), (Value.int .i64 m_4), (Value.int .i64 m_5), (Value.int .i64 m_6), (Value.int .i64 m_7), (Value.int .i64 m_8), (Value.int .i64 m_9), (Value.int .i64 m_10), (Value.int .i64 m_11), (Value.int .i64 m_12), (Value.int .u8 m_13), (Value.int .i64 m_14), (Value.int .i64 m_15)])] : Array Value).toList 0) h := by kernel_rfl
theorem b135 : bOk Tryz.prog 135 Tryz.f135 104 ann135 = true := by kernel_rfl
set_option maxRecDepth 100000 in
theorem S135_ok {G : Heap} {K : Value → Heap → Prop} {Kp : PK} {c_1 : Option Addr} {m_2 : Int} {m_3 : Int} {m_4 : Int} {m_5 : Int} {m_6 : Int} {m_7 : Int} {m_8 : Int} {m_9 : Int} {m_10 : Int} {m_11 : Int} {m_12 : Int} {m_13 : Int} {m_14 : Int} {m_15 : Int} {h : Heap} (hh : S135 G K Kp c_1 m_2 m_3 m_4 m_5 m_6 m_7 m_8 m_9 m_10 m_11 m_12 m_13 m_14 m_15 h) :
    CallF Tryz.prog G 135 #[(Value.pointer c_1), (Value.agg #[(Value.int .i64 m_2), (Value.int .i64 m_3), (Value.int .i64 m_4), (Value.int .i64 m_5), (Value.int .i64 m_6), (Value.int .i64 m_7), (Value.int .i64 m_8), (Value.int .i64 m_9), (Value.int .i64 m_10), (Value.int .i64 m_11), (Value.int .i64 m_12), (Value.int .u8 m_13), (Value.int .i64 m_14), (Value.int .i64 m_15)])] K Kp h :=
  callF_b T135 hmix Tryz.func135 Tryz.ntmps135 b135 (by kernel_rfl) (Eq.mp vc135 hh)
def S97 (G : Heap) (K : Value → Heap → Prop) (Kp : PK) (m_1 : Int) (m_2 : Int) (m_3 : Int) (m_4 : Int) (m_5 : Int) (m_6 : Int) (m_7 : Int) (m_8 : Int) (m_9 : Int) (m_10 : Int) (m_11 : Int) (m_12 : Int) (m_13 : Int) (m_14 : Int) (h : Heap) : Prop :=
  newK G (.cells #[(Value.int .i64 m_1), (Value.int .i64 m_2), (Value.int .i64 m_3), (Value.int .i64 m_4), (Value.int .i64 m_5), (Value.int .i64 m_6), (Value.int .i64 m_7), (Value.int .i64 m_8), (Value.int .i64 m_9), (Value.int .i64 m_10), (Value.int .i64 m_11), (Value.int .u8 m_12), (Value.int .i64 m_13), (Value.int .i64 m_14)] 150) (fun r_15 h => newK G (.cells #[(Value.int .i64 0), (Value.int .i64 0), (Value.int .i64 0), (Value.int .i64 0), (Value.int .i64 0), (Value.int .i64 0), (Value.int .i64 0), (Value.int .i64 0), (Value.int .i64 0), (Value.int .i64 0), (Value.int .i64 0), (Value.int .i64 0), (Value.int .i64 0), (Value.int .i64 0)] 202) (fun r_16 h => (LdI G h .i64 (⟨r_15, 0, none⟩ : Addr) fun n_17 => LdI G h .i64 (⟨r_15, 1, none⟩ : Addr) fun n_18 => LdI G h .i64 (⟨r_15, 2, none⟩ : Addr) fun n_19 => LdI G h .i64 (⟨r_15, 3, none⟩ : Addr) fun n_20 => LdI G h .i64 (⟨r_15, 4, none⟩ : Addr) fun n_21 => LdI G h .i64 (⟨r_15, 5, none⟩ : Addr) fun n_22 => LdI G h .i64 (⟨r_15, 6, none⟩ : Addr) fun n_23 => LdI G h .i64 (⟨r_15, 7, none⟩ : Addr) fun n_24 => LdI G h .i64 (⟨r_15, 8, none⟩ : Addr) fun n_25 => LdI G h .i64 (⟨r_15, 9, none⟩ : Addr) fun n_26 => LdI G h .i64 (⟨r_15, 10, none⟩ : Addr) fun n_27 => LdI G h .u8 (⟨r_15, 11, none⟩ : Addr) fun n_28 => LdI G h .i64 (⟨r_15, 12, none⟩ : Addr) fun n_29 => LdI G h .i64 (⟨r_15, 13, none⟩ : Addr) fun n_30 => st1 (⟨r_16, 0, none⟩ : Addr) (Value.int .i64 n_17) (fun h => st1 (⟨r_16, 1, none⟩ : Addr) (Value.int .i64 n_18) (fun h => st1 (⟨r_16, 2, none⟩ : Addr) (Value.int .i64 n_19) (fun h => st1 (⟨r_16, 3, none⟩ : Addr) (Value.int .i64 n_20) (fun h => st1 (⟨r_16, 4, none⟩ : Addr) (Value.int .i64 n_21) (fun h => st1 (⟨r_16, 5, none⟩ : Addr) (Value.int .i64 n_22) (fun h => st1 (⟨r_16, 6, none⟩ : Addr) (Value.int .i64 n_23) (fun h => st1 (⟨r_16, 7, none⟩ : Addr) (Value.int .i64 n_24) (fun h => st1 (⟨r_16, 8, none⟩ : Addr) (Value.int .i64 n_25) (fun h => st1 (⟨r_16, 9, none⟩ : Addr) (Value.int .i64 n_26) (fun h => st1 (⟨r_16, 10, none⟩ : Addr) (Value.int .i64 n_27) (fun h => st1 (⟨r_16, 11, none⟩ : Addr) (Value.int .i64 (IntKind.wrap .i64 n_28)) (fun h => st1 (⟨r_16, 12, none⟩ : Addr) (Value.int .i64 n_29) (fun h => st1 (⟨r_16, 13, none⟩ : Addr) (Value.int .i64 n_30) (fun h => (LdI G h .i64 (⟨r_16, 0, none⟩ : Addr) fun n_31 => LdI G h .i64 (⟨r_16, 1, none⟩ : Addr) fun n_32 => LdI G h .i64 (⟨r_16, 2, none⟩ : Addr) fun n_33 => LdI G h .i64 (⟨r_16, 3, none⟩ : Addr) fun n_34 => LdI G h .i64 (⟨r_16, 4, none⟩ : Addr) fun n_35 => LdI G h .i64 (⟨r_16, 5, none⟩ : Addr) fun n_36 => LdI G h .i64 (⟨r_16, 6, none⟩ : Addr) fun n_37 => LdI G h .i64 (⟨r_16, 7, none⟩ : Addr) fun n_38 => LdI G h .i64 (⟨r_16, 8, none⟩ : Addr) fun n_39 => LdI G h .i64 (⟨r_16, 9, none⟩ : Addr) fun n_40 => LdI G h .i64 (⟨r_16, 10, none⟩ : Addr) fun n_41 => LdI G h .i64 (⟨r_16, 11, none⟩ : Addr) fun n_42 => LdI G h .i64 (⟨r_16, 12, none⟩ : Addr) fun n_43 => LdI G h .i64 (⟨r_16, 13, none⟩ : Addr) fun n_44 => K (Value.agg #[(Value.int .i64 n_31), (Value.int .i64 n_32), (Value.int .i64 n_33), (Value.int .i64 n_34), (Value.int .i64 n_35), (Value.int .i64 n_36), (Value.int .i64 n_37), (Value.int .i64 n_38), (Value.int .i64 n_39), (Value.int .i64 n_40), (Value.int .i64 n_41), (Value.int .i64 n_42), (Value.int .i64 n_43), (Value.int .i64 n_44)]) h)) h) h) h) h) h) h) h) h) h) h) h) h) h) h)) h) h
noncomputable def E97 : TE := mkE [R3, R5, R84, R150, R202] false (.any)
theorem T97 : TOk Tryz.prog E97 := mkE_ok (AllOk.mem (⟨R3_ok, R5_ok, R84_ok, R150_ok, R202_ok, trivial⟩ : AllOk Tryz.prog [R3, R5, R84, R150, R202]))
def ann97 : Nat → LAnn := fun _ => ⟨[], []⟩
theorem vc97 {G : Heap} {K : Value → Heap → Prop} {Kp : PK} {m_1 : Int} {m_2 : Int} {m_3 : Int} {m_4 : Int} {m_5 : Int} {m_6 : Int} {m_7 : Int} {m_8 : Int} {m_9 : Int} {m_10 : Int} {m_11 : Int} {m_12 : Int} {m_13 : Int} {m_14 : Int} {h : Heap} :
    S97 G K Kp m_1 m_2 m_3 m_4 m_5 m_6 m_7 m_8 m_9 m_10 m_11 m_12 m_13 m_14 h = vcC E97 Tryz.prog G 38 ann97 Kp (bodyOf Tryz.f97) (retQ E97 G Tryz.f97.results.toList K) (frmA (#[(Value.agg #[(Value.int .i64 m_1), (Value.int .i64 m_2), (Value.int .i64 m_3), (Value.int .i64 m_4), (Value.int .i64 m_5), (Value.int .i64 m_6), (Value.int .i64 m_7), (Value.int .i64 m_8), (Value.int .i64 m_9), (Value.int .i64 m_10), (Value.int .i64 m_11), (Value.int .u8 m_12), (Value.int .i64 m_13), (Value.int .i64 m_14)])] : Array Value).toList 0) h := by kernel_rfl
theorem b97 : bOk Tryz.prog 97 Tryz.f97 38 ann97 = true := by kernel_rfl
set_option maxRecDepth 100000 in
theorem S97_ok {G : Heap} {K : Value → Heap → Prop} {Kp : PK} {m_1 : Int} {m_2 : Int} {m_3 : Int} {m_4 : Int} {m_5 : Int} {m_6 : Int} {m_7 : Int} {m_8 : Int} {m_9 : Int} {m_10 : Int} {m_11 : Int} {m_12 : Int} {m_13 : Int} {m_14 : Int} {h : Heap} (hh : S97 G K Kp m_1 m_2 m_3 m_4 m_5 m_6 m_7 m_8 m_9 m_10 m_11 m_12 m_13 m_14 h) :
    CallF Tryz.prog G 97 #[(Value.agg #[(Value.int .i64 m_1), (Value.int .i64 m_2), (Value.int .i64 m_3), (Value.int .i64 m_4), (Value.int .i64 m_5), (Value.int .i64 m_6), (Value.int .i64 m_7), (Value.int .i64 m_8), (Value.int .i64 m_9), (Value.int .i64 m_10), (Value.int .i64 m_11), (Value.int .u8 m_12), (Value.int .i64 m_13), (Value.int .i64 m_14)])] K Kp h :=
  callF_b T97 hmix Tryz.func97 Tryz.ntmps97 b97 (by kernel_rfl) (Eq.mp vc97 hh)
def S90_k2 (G : Heap) (K : Value → Heap → Prop) (Kp : PK) (b_1 : Option Addr)  (h : Heap) : Prop :=
  CallF Tryz.prog G 73 #[(Value.pointer b_1)] (fun r_23 h => r_23 = (Value.tuple #[]) ∧ (K (Value.tuple #[]) h)) Kp h
def S90_k1 (G : Heap) (K : Value → Heap → Prop) (Kp : PK) (r_15 : Nat) (b_1 : Option Addr) (i_2 : Int)  (h : Heap) : Prop :=
  LdI G h .i64 (⟨r_15, 0, none⟩ : Addr) fun n_18 => (If (n_18 == 1) (LdI G h .i64 (⟨r_15, 1, none⟩ : Addr) fun n_19 => NN b_1 fun a_20 => LdI G h .i64 (ad a_20 1) fun n_21 => Rng (n_21 + 1) ((If (n_19 != (n_21 + 1)) (slV Tryz.prog G (Instr.panic (Value.iface 182 (Value.agg #[(Value.int .i64 i_2), (Value.iface 40 (Value.int .i64 127))]))) (fun r_22 h => r_22 = (Value.tuple #[]) ∧ (S90_k2 G K Kp b_1 h)) Kp h) ((S90_k2 G K Kp b_1 h))))) ((LdI G h .i64 (⟨r_15, 2, none⟩ : Addr) fun n_24 => LdI G h .i64 (⟨r_15, 3, none⟩ : Addr) fun n_25 => LdI G h .i64 (⟨r_15, 4, none⟩ : Addr) fun n_26 => LdI G h .u8 (⟨r_15, 5, none⟩ : Addr) fun n_27 => LdI G h .i64 (⟨r_15, 6, none⟩ : Addr) fun n_28 => LdI G h .i64 (⟨r_15, 7, none⟩ : Addr) fun n_29 => CallF Tryz.prog G 131 #[(Value.pointer b_1), (Value.int .i64 i_2), (Value.agg #[(Value.int .i64 n_24), (Value.int .i64 n_25), (Value.int .i64 n_26), (Value.int .u8 n_27), (Value.int .i64 n_28), (Value.int .i64 n_29)])] (fun r_30 h => r_30 = (Value.tuple #[]) ∧ K (Value.tuple #[]) h) Kp h)))
def S90 (G : Heap) (K : Value → Heap → Prop) (Kp : PK) (b_1 : Option Addr) (i_2 : Int) (payloada_3 : Option Addr) (payloadl_4 : Nat) (payloadc_5 : Nat) (h : Heap) : Prop :=
  CallF Tryz.prog G 130 #[(Value.slice payloada_3 payloadl_4 payloadc_5)] (fun r_16 h => ∃ n_6 n_7 n_8 n_9 n_10 n_11 n_12 n_13 v_14, r_16 = (Value.tuple #[(Value.agg #[(Value.int .i64 n_6), (Value.int .i64 n_7), (Value.int .i64 n_8), (Value.int .i64 n_9), (Value.int .i64 n_10), (Value.int .u8 n_11), (Value.int .i64 n_12), (Value.int .i64 n_13)]), v_14]) ∧ newK G (.cells #[(Value.int .i64 0), (Value.int .i64 0), (Value.int .i64 0), (Value.int .i64 0), (Value.int .i64 0), (Value.int .u8 0), (Value.int .i64 0), (Value.int .i64 0)] 154) (fun r_15 h => st1 (⟨r_15, 0, none⟩ : Addr) (Value.int .i64 n_6) (fun h => st1 (⟨r_15, 1, none⟩ : Addr) (Value.int .i64 n_7) (fun h => st1 (⟨r_15, 2, none⟩ : Addr) (Value.int .i64 n_8) (fun h => st1 (⟨r_15, 3, none⟩ : Addr) (Value.int .i64 n_9) (fun h => st1 (⟨r_15, 4, none⟩ : Addr) (Value.int .i64 n_10) (fun h => st1 (⟨r_15, 5, none⟩ : Addr) (Value.int .u8 n_11) (fun h => st1 (⟨r_15, 6, none⟩ : Addr) (Value.int .i64 n_12) (fun h => st1 (⟨r_15, 7, none⟩ : Addr) (Value.int .i64 n_13) (fun h => (Rq (IsI v_14) ((If (!(isNilI v_14)) (plK v_14 (slV Tryz.prog G (Instr.panic (Value.iface 182 (Value.agg #[(Value.int .i64 i_2), v_14]))) (fun r_17 h => r_17 = (Value.tuple #[]) ∧ (S90_k1 G K Kp r_15 b_1 i_2 h)) Kp h)) ((S90_k1 G K Kp r_15 b_1 i_2 h)))))) h) h) h) h) h) h) h) h) h) Kp h
noncomputable def E90 : TE := mkE [R0, R3, R40, R78, R84, R124, R131, R154, R182, R256] false (.any)
theorem T90 : TOk Tryz.prog E90 := mkE_ok (AllOk.mem (⟨R0_ok, R3_ok, R40_ok, R78_ok, R84_ok, R124_ok, R131_ok, R154_ok, R182_ok, R256_ok, trivial⟩ : AllOk Tryz.prog [R0, R3, R40, R78, R84, R124, R131, R154, R182, R256]))
def ann90 : Nat → LAnn := fun _ => ⟨[], []⟩
theorem vc90 {G : Heap} {K : Value → Heap → Prop} {Kp : PK} {b_1 : Option Addr} {i_2 : Int} {payloada_3 : Option Addr} {payloadl_4 : Nat} {payloadc_5 : Nat} {h : Heap} :
    S90 G K Kp b_1 i_2 payloada_3 payloadl_4 payloadc_5 h = vcC E90 Tryz.prog G 44 ann90 Kp (bodyOf Tryz.f90) (retQ E90 G Tryz.f90.results.toList K) (frmA (#[(Value.pointer b_1), (Value.int .i64 i_2), (Value.slice payloada_3 payloadl_4 payloadc_5)] : Array Value).toList 0) h := by kernel_rfl
theorem b90 : bOk Tryz.prog 90 Tryz.f90 44 ann90 = true := by kernel_rfl
set_option maxRecDepth 100000 in
theorem S90_ok {G : Heap} {K : Value → Heap → Prop} {Kp : PK} {b_1 : Option Addr} {i_2 : Int} {payloada_3 : Option Addr} {payloadl_4 : Nat} {payloadc_5 : Nat} {h : Heap} (hh : S90 G K Kp b_1 i_2 payloada_3 payloadl_4 payloadc_5 h) :
    CallF Tryz.prog G 90 #[(Value.pointer b_1), (Value.int .i64 i_2), (Value.slice payloada_3 payloadl_4 payloadc_5)] K Kp h :=
  callF_b T90 hmix Tryz.func90 Tryz.ntmps90 b90 (by kernel_rfl) (Eq.mp vc90 hh)
def S112_k1 (G : Heap) (K : Value → Heap → Prop) (Kp : PK) (q_1 : Option Addr) (r_8 : Nat) (mark_2 : Int) (t22_18 : Bool) (h : Heap) : Prop :=
  If t22_18 ((K (Value.int .i64 100) h)) ((NN q_1 fun a_19 => LdSl G h a_19 fun xa_20 xl_21 xc_22 => LdI G h .i64 (⟨r_8, 0, none⟩ : Addr) fun n_23 => LdI G h .i64 (⟨r_8, 1, none⟩ : Addr) fun n_24 => LdI G h .u8 (⟨r_8, 2, none⟩ : Addr) fun n_25 => LdI G h .i64 (⟨r_8, 3, none⟩ : Addr) fun n_26 => LdI G h .i64 (⟨r_8, 4, none⟩ : Addr) fun n_27 => newK G (.cells #[(Value.int .i64 mark_2), (Value.int .i64 n_23), (Value.int .i64 n_24), (Value.int .u8 n_25), (Value.int .i64 n_26), (Value.int .i64 n_27)] 225) (fun r_28 h => hcell (rd G h) a_19 = some (Value.slice xa_20 xl_21 xc_22) ∧ slV Tryz.prog G (Builtin.append_ #[218, 218] 218 #[(Value.slice xa_20 xl_21 xc_22), (Value.slice (some (⟨r_28, 0, none⟩ : Addr)) 1 1)]) (fun r_33 h => ∃ xa_29 xl_30 xc_31, r_33 = (Value.slice xa_29 xl_30 xc_31) ∧ NN q_1 fun a_32 => st1 a_32 (Value.slice xa_29 xl_30 xc_31) (fun h => (NN q_1 fun a_34 => st1 (ad a_34 1) (Value.int .i64 mark_2) (fun h => ((K (Value.int .i64 0) h))) h)) h) Kp h) h))
def S112 (G : Heap) (K : Value → Heap → Prop) (Kp : PK) (q_1 : Option Addr) (mark_2 : Int) (op_3 : Int) (op_4 : Int) (op_5 : Int) (op_6 : Int) (op_7 : Int) (h : Heap) : Prop :=
  newK G (.cells #[(Value.int .i64 op_3), (Value.int .i64 op_4), (Value.int .u8 op_5), (Value.int .i64 op_6), (Value.int .i64 op_7)] 84) (fun r_8 h => (LdI G h .i64 (⟨r_8, 0, none⟩ : Addr) fun n_9 => LdI G h .i64 (⟨r_8, 1, none⟩ : Addr) fun n_10 => LdI G h .u8 (⟨r_8, 2, none⟩ : Addr) fun n_11 => LdI G h .i64 (⟨r_8, 3, none⟩ : Addr) fun n_12 => LdI G h .i64 (⟨r_8, 4, none⟩ : Addr) fun n_13 => CallF Tryz.prog G 106 #[(Value.agg #[(Value.int .i64 n_9), (Value.int .i64 n_10), (Value.int .u8 n_11), (Value.int .i64 n_12), (Value.int .i64 n_13)])] (fun r_15 h => ∃ n_14, r_15 = (Value.int .i64 n_14) ∧ ((If (n_14 != 0) ((K (Value.int .i64 n_14) h)) ((NN q_1 fun a_16 => LdI G h .i64 (ad a_16 1) fun n_17 => If (decide (mark_2 ≤ n_17)) ((S112_k1 G K Kp q_1 r_8 mark_2 true h)) ((S112_k1 G K Kp q_1 r_8 mark_2 (decide (mark_2 > 4096)) h))))))) Kp h)) h
noncomputable def E112 : TE := mkE [R3, R40, R84, R218, R221, R225] false (.any)
theorem T112 : TOk Tryz.prog E112 := mkE_ok (AllOk.mem (⟨R3_ok, R40_ok, R84_ok, R218_ok, R221_ok, R225_ok, trivial⟩ : AllOk Tryz.prog [R3, R40, R84, R218, R221, R225]))
def ann112 : Nat → LAnn := fun _ => ⟨[], []⟩
theorem vc112 {G : Heap} {K : Value → Heap → Prop} {Kp : PK} {q_1 : Option Addr} {mark_2 : Int} {op_3 : Int} {op_4 : Int} {op_5 : Int} {op_6 : Int} {op_7 : Int} {h : Heap} :
    S112 G K Kp q_1 mark_2 op_3 op_4 op_5 op_6 op_7 h = vcC E112 Tryz.prog G 39 ann112 Kp (bodyOf Tryz.f112) (retQ E112 G Tryz.f112.results.toList K) (frmA (#[(Value.pointer q_1), (Value.int .i64 mark_2), (Value.agg #[(Value.int .i64 op_3), (Value.int .i64 op_4), (Value.int .u8 op_5), (Value.int .i64 op_6), (Value.int .i64 op_7)])] : Array Value).toList 0) h := by kernel_rfl
theorem b112 : bOk Tryz.prog 112 Tryz.f112 39 ann112 = true := by kernel_rfl
set_option maxRecDepth 100000 in
theorem S112_ok {G : Heap} {K : Value → Heap → Prop} {Kp : PK} {q_1 : Option Addr} {mark_2 : Int} {op_3 : Int} {op_4 : Int} {op_5 : Int} {op_6 : Int} {op_7 : Int} {h : Heap} (hh : S112 G K Kp q_1 mark_2 op_3 op_4 op_5 op_6 op_7 h) :
    CallF Tryz.prog G 112 #[(Value.pointer q_1), (Value.int .i64 mark_2), (Value.agg #[(Value.int .i64 op_3), (Value.int .i64 op_4), (Value.int .u8 op_5), (Value.int .i64 op_6), (Value.int .i64 op_7)])] K Kp h :=
  callF_b T112 hmix Tryz.func112 Tryz.ntmps112 b112 (by kernel_rfl) (Eq.mp vc112 hh)
def S131_k1 (G : Heap) (K : Value → Heap → Prop) (Kp : PK) (r_9 : Nat) (b_1 : Option Addr)  (h : Heap) : Prop :=
  LdI G h .i64 (⟨r_9, 0, none⟩ : Addr) fun n_19 => LdI G h .i64 (⟨r_9, 1, none⟩ : Addr) fun n_20 => LdI G h .i64 (⟨r_9, 2, none⟩ : Addr) fun n_21 => LdI G h .u8 (⟨r_9, 3, none⟩ : Addr) fun n_22 => LdI G h .i64 (⟨r_9, 4, none⟩ : Addr) fun n_23 => LdI G h .i64 (⟨r_9, 5, none⟩ : Addr) fun n_24 => CallF Tryz.prog G 80 #[(Value.pointer b_1), (Value.agg #[(Value.int .i64 n_19), (Value.int .i64 n_20), (Value.int .i64 n_21), (Value.int .u8 n_22), (Value.int .i64 n_23), (Value.int .i64 n_24)])] (fun r_25 h => r_25 = (Value.tuple #[]) ∧ K (Value.tuple #[]) h) Kp h
def S131 (G : Heap) (K : Value → Heap → Prop) (Kp : PK) (b_1 : Option Addr) (i_2 : Int) (e_3 : Int) (e_4 : Int) (e_5 : Int) (e_6 : Int) (e_7 : Int) (e_8 : Int) (h : Heap) : Prop :=
  newK G (.cells #[(Value.int .i64 e_3), (Value.int .i64 e_4), (Value.int .i64 e_5), (Value.int .u8 e_6), (Value.int .i64 e_7), (Value.int .i64 e_8)] 124) (fun r_9 h => (LdI G h .i64 (⟨r_9, 0, none⟩ : Addr) fun n_10 => LdI G h .i64 (⟨r_9, 1, none⟩ : Addr) fun n_11 => LdI G h .i64 (⟨r_9, 2, none⟩ : Addr) fun n_12 => LdI G h .u8 (⟨r_9, 3, none⟩ : Addr) fun n_13 => LdI G h .i64 (⟨r_9, 4, none⟩ : Addr) fun n_14 => LdI G h .i64 (⟨r_9, 5, none⟩ : Addr) fun n_15 => CallF Tryz.prog G 79 #[(Value.pointer b_1), (Value.agg #[(Value.int .i64 n_10), (Value.int .i64 n_11), (Value.int .i64 n_12), (Value.int .u8 n_13), (Value.int .i64 n_14), (Value.int .i64 n_15)])] (fun r_17 h => ∃ n_16, r_17 = (Value.int .i64 n_16) ∧ ((If (n_16 != 0) (slV Tryz.prog G (Instr.panic (Value.iface 182 (Value.agg #[(Value.int .i64 i_2), (Value.iface 40 (Value.int .i64 n_16))]))) (fun r_18 h => r_18 = (Value.tuple #[]) ∧ (S131_k1 G K Kp r_9 b_1 h)) Kp h) ((S131_k1 G K Kp r_9 b_1 h))))) Kp h)) h
noncomputable def E131 : TE := mkE [R0, R3, R40, R78, R124, R182] false (.any)
theorem T131 : TOk Tryz.prog E131 := mkE_ok (AllOk.mem (⟨R0_ok, R3_ok, R40_ok, R78_ok, R124_ok, R182_ok, trivial⟩ : AllOk Tryz.prog [R0, R3, R40, R78, R124, R182]))
def ann131 : Nat → LAnn := fun _ => ⟨[], []⟩
theorem vc131 {G : Heap} {K : Value → Heap → Prop} {Kp : PK} {b_1 : Option Addr} {i_2 : Int} {e_3 : Int} {e_4 : Int} {e_5 : Int} {e_6 : Int} {e_7 : Int} {e_8 : Int} {h : Heap} :
    S131 G K Kp b_1 i_2 e_3 e_4 e_5 e_6 e_7 e_8 h = vcC E131 Tryz.prog G 20 ann131 Kp (bodyOf Tryz.f131) (retQ E131 G Tryz.f131.results.toList K) (frmA (#[(Value.pointer b_1), (Value.int .i64 i_2), (Value.agg #[(Value.int .i64 e_3), (Value.int .i64 e_4), (Value.int .i64 e_5), (Value.int .u8 e_6), (Value.int .i64 e_7), (Value.int .i64 e_8)])] : Array Value).toList 0) h := by kernel_rfl
theorem b131 : bOk Tryz.prog 131 Tryz.f131 20 ann131 = true := by kernel_rfl
set_option maxRecDepth 100000 in
theorem S131_ok {G : Heap} {K : Value → Heap → Prop} {Kp : PK} {b_1 : Option Addr} {i_2 : Int} {e_3 : Int} {e_4 : Int} {e_5 : Int} {e_6 : Int} {e_7 : Int} {e_8 : Int} {h : Heap} (hh : S131 G K Kp b_1 i_2 e_3 e_4 e_5 e_6 e_7 e_8 h) :
    CallF Tryz.prog G 131 #[(Value.pointer b_1), (Value.int .i64 i_2), (Value.agg #[(Value.int .i64 e_3), (Value.int .i64 e_4), (Value.int .i64 e_5), (Value.int .u8 e_6), (Value.int .i64 e_7), (Value.int .i64 e_8)])] K Kp h :=
  callF_b T131 hmix Tryz.func131 Tryz.ntmps131 b131 (by kernel_rfl) (Eq.mp vc131 hh)
def S101_k1 (G : Heap) (K : Value → Heap → Prop) (Kp : PK) (payloadl_2 : Nat) (payloada_1 : Option Addr) (payloadc_3 : Nat) (t13_4 : Bool) (h : Heap) : Prop :=
  If t13_4 ((K (Value.tuple #[(Value.slice none 0 0), (Value.iface 40 (Value.int .i64 30))]) h)) ((CallF Tryz.prog G 142 #[(Value.slice none 0 0), (Value.int .u64 (IntKind.wrap .u64 ((payloadl_2 : Nat) : Int)))] (fun r_12 h => ∃ xa_5 xl_6 xc_7, r_12 = (Value.slice xa_5 xl_6 xc_7) ∧ Rng (65535 - ((payloadl_2 : Nat) : Int)) (CallF Tryz.prog G 142 #[(Value.slice xa_5 xl_6 xc_7), (Value.int .u64 (IntKind.wrap .u64 (65535 - ((payloadl_2 : Nat) : Int))))] (fun r_11 h => ∃ xa_8 xl_9 xc_10, r_11 = (Value.slice xa_8 xl_9 xc_10) ∧ (slV Tryz.prog G (Builtin.append_ #[49, 49] 49 #[(Value.slice xa_8 xl_9 xc_10), (Value.slice payloada_1 payloadl_2 payloadc_3)]) (fun r_20 h => ∃ xa_13 xl_14 xc_15, r_20 = (Value.slice xa_13 xl_14 xc_15) ∧ CallF Tryz.prog G 133 #[(Value.slice xa_13 xl_14 xc_15)] (fun r_19 h => ∃ xa_16 xl_17 xc_18, r_19 = (Value.slice xa_16 xl_17 xc_18) ∧ (K (Value.tuple #[(Value.slice xa_16 xl_17 xc_18), Value.nilIface]) h)) Kp h) Kp h)) Kp h)) Kp h))
def S101 (G : Heap) (K : Value → Heap → Prop) (Kp : PK) (payloada_1 : Option Addr) (payloadl_2 : Nat) (payloadc_3 : Nat) (h : Heap) : Prop :=
  ((If (decide (((payloadl_2 : Nat) : Int) < 1)) ((S101_k1 G K Kp payloadl_2 payloada_1 payloadc_3 true h)) ((S101_k1 G K Kp payloadl_2 payloada_1 payloadc_3 (decide (((payloadl_2 : Nat) : Int) > 64)) h))))
noncomputable def E101 : TE := mkE [R3, R40, R49, R241] false (.any)
theorem T101 : TOk Tryz.prog E101 := mkE_ok (AllOk.mem (⟨R3_ok, R40_ok, R49_ok, R241_ok, trivial⟩ : AllOk Tryz.prog [R3, R40, R49, R241]))
def ann101 : Nat → LAnn := fun _ => ⟨[], []⟩
theorem vc101 {G : Heap} {K : Value → Heap → Prop} {Kp : PK} {payloada_1 : Option Addr} {payloadl_2 : Nat} {payloadc_3 : Nat} {h : Heap} :
    S101 G K Kp payloada_1 payloadl_2 payloadc_3 h = vcC E101 Tryz.prog G 26 ann101 Kp (bodyOf Tryz.f101) (retQ E101 G Tryz.f101.results.toList K) (frmA (#[(Value.slice payloada_1 payloadl_2 payloadc_3)] : Array Value).toList 0) h := by kernel_rfl
theorem b101 : bOk Tryz.prog 101 Tryz.f101 26 ann101 = true := by kernel_rfl
set_option maxRecDepth 100000 in
theorem S101_ok {G : Heap} {K : Value → Heap → Prop} {Kp : PK} {payloada_1 : Option Addr} {payloadl_2 : Nat} {payloadc_3 : Nat} {h : Heap} (hh : S101 G K Kp payloada_1 payloadl_2 payloadc_3 h) :
    CallF Tryz.prog G 101 #[(Value.slice payloada_1 payloadl_2 payloadc_3)] K Kp h :=
  callF_b T101 hmix Tryz.func101 Tryz.ntmps101 b101 (by kernel_rfl) (Eq.mp vc101 hh)
def S164 (G : Heap) (K : Value → Heap → Prop) (Kp : PK) (v_1 : Option Addr) (h : Heap) : Prop :=
  newK G (.cells #[(Value.int .i64 0), (Value.int .i64 0), (Value.int .u8 0), (Value.int .i64 0), (Value.int .i64 0)] 84) (fun r_2 h => (NN v_1 fun a_3 => Rq ((0 : Int) ≤ 9 ∧ 9 < ((14 : Nat) : Int)) (LdI G h .i64 (ad a_3 9) fun n_4 => NN v_1 fun a_5 => Rq ((0 : Int) ≤ 10 ∧ 10 < ((14 : Nat) : Int)) (LdI G h .i64 (ad a_5 10) fun n_6 => NN v_1 fun a_7 => Rq ((0 : Int) ≤ 11 ∧ 11 < ((14 : Nat) : Int)) (LdI G h .i64 (ad a_7 11) fun n_8 => NN v_1 fun a_9 => Rq ((0 : Int) ≤ 12 ∧ 12 < ((14 : Nat) : Int)) (LdI G h .i64 (ad a_9 12) fun n_10 => NN v_1 fun a_11 => Rq ((0 : Int) ≤ 13 ∧ 13 < ((14 : Nat) : Int)) (LdI G h .i64 (ad a_11 13) fun n_12 => st1 (⟨r_2, 0, none⟩ : Addr) (Value.int .i64 n_4) (fun h => st1 (⟨r_2, 1, none⟩ : Addr) (Value.int .i64 n_6) (fun h => st1 (⟨r_2, 2, none⟩ : Addr) (Value.int .u8 (IntKind.wrap .u8 n_8)) (fun h => st1 (⟨r_2, 3, none⟩ : Addr) (Value.int .i64 n_10) (fun h => st1 (⟨r_2, 4, none⟩ : Addr) (Value.int .i64 n_12) (fun h => (LdI G h .i64 (⟨r_2, 0, none⟩ : Addr) fun n_13 => LdI G h .i64 (⟨r_2, 1, none⟩ : Addr) fun n_14 => LdI G h .u8 (⟨r_2, 2, none⟩ : Addr) fun n_15 => LdI G h .i64 (⟨r_2, 3, none⟩ : Addr) fun n_16 => LdI G h .i64 (⟨r_2, 4, none⟩ : Addr) fun n_17 => K (Value.agg #[(Value.int .i64 n_13), (Value.int .i64 n_14), (Value.int .u8 n_15), (Value.int .i64 n_16), (Value.int .i64 n_17)]) h)) h) h) h) h) h))))))) h
noncomputable def E164 : TE := mkE [R3, R5, R84, R202] false (.any)
theorem T164 : TOk Tryz.prog E164 := mkE_ok (AllOk.mem (⟨R3_ok, R5_ok, R84_ok, R202_ok, trivial⟩ : AllOk Tryz.prog [R3, R5, R84, R202]))
def ann164 : Nat → LAnn := fun _ => ⟨[], []⟩
theorem vc164 {G : Heap} {K : Value → Heap → Prop} {Kp : PK} {v_1 : Option Addr} {h : Heap} :
    S164 G K Kp v_1 h = vcC E164 Tryz.prog G 25 ann164 Kp (bodyOf Tryz.f164) (retQ E164 G Tryz.f164.results.toList K) (frmA (#[(Value.pointer v_1)] : Array Value).toList 0) h := by kernel_rfl
theorem b164 : bOk Tryz.prog 164 Tryz.f164 25 ann164 = true := by kernel_rfl
set_option maxRecDepth 100000 in
theorem S164_ok {G : Heap} {K : Value → Heap → Prop} {Kp : PK} {v_1 : Option Addr} {h : Heap} (hh : S164 G K Kp v_1 h) :
    CallF Tryz.prog G 164 #[(Value.pointer v_1)] K Kp h :=
  callF_b T164 hmix Tryz.func164 Tryz.ntmps164 b164 (by kernel_rfl) (Eq.mp vc164 hh)
def S49 (G : Heap) (K : Value → Heap → Prop) (Kp : PK) (r_1 : Option Addr) (h : Heap) : Prop :=
  NN r_1 fun a_2 => LdSl G h (ad a_2 16) fun xa_3 xl_4 xc_5 => NN r_1 fun a_6 => LdP G h (ad a_6 3) fun p_7 => CallF Tryz.prog G 51 #[(Value.pointer p_7)] (fun r_15 h => ∃ n_8, r_15 = (Value.int .i64 n_8) ∧ hcell (rd G h) (ad a_2 16) = some (Value.slice xa_3 xl_4 xc_5) ∧ newK G (.cells #[(Value.int .i64 n_8)] 3) (fun r_9 h => hcell (rd G h) (ad a_2 16) = some (Value.slice xa_3 xl_4 xc_5) ∧ slV Tryz.prog G (Builtin.append_ #[23, 23] 23 #[(Value.slice xa_3 xl_4 xc_5), (Value.slice (some (⟨r_9, 0, none⟩ : Addr)) 1 1)]) (fun r_14 h => ∃ xa_10 xl_11 xc_12, r_14 = (Value.slice xa_10 xl_11 xc_12) ∧ NN r_1 fun a_13 => st1 (ad a_13 16) (Value.slice xa_10 xl_11 xc_12) (fun h => (NN r_1 fun a_16 => LdSl G h (ad a_16 17) fun xa_17 xl_18 xc_19 => NN r_1 fun a_20 => LdSl G h (ad a_20 15) fun xa_21 xl_22 xc_23 => newK G (.cells #[(Value.int .i64 ((xl_22 : Nat) : Int))] 3) (fun r_24 h => hcell (rd G h) (ad a_16 17) = some (Value.slice xa_17 xl_18 xc_19) ∧ slV Tryz.prog G (Builtin.append_ #[23, 23] 23 #[(Value.slice xa_17 xl_18 xc_19), (Value.slice (some (⟨r_24, 0, none⟩ : Addr)) 1 1)]) (fun r_29 h => ∃ xa_25 xl_26 xc_27, r_29 = (Value.slice xa_25 xl_26 xc_27) ∧ NN r_1 fun a_28 => st1 (ad a_28 17) (Value.slice xa_25 xl_26 xc_27) (fun h => K (Value.tuple #[]) h) h) Kp h) h)) h) Kp h) h) Kp h
noncomputable def E49 : TE := mkE [R3, R23, R31, R37, R39] false (.any)
theorem T49 : TOk Tryz.prog E49 := mkE_ok (AllOk.mem (⟨R3_ok, R23_ok, R31_ok, R37_ok, R39_ok, trivial⟩ : AllOk Tryz.prog [R3, R23, R31, R37, R39]))
def ann49 : Nat → LAnn := fun _ => ⟨[], []⟩
theorem vc49 {G : Heap} {K : Value → Heap → Prop} {Kp : PK} {r_1 : Option Addr} {h : Heap} :
    S49 G K Kp r_1 h = vcC E49 Tryz.prog G 30 ann49 Kp (bodyOf Tryz.f49) (retQ E49 G Tryz.f49.results.toList K) (frmA (#[(Value.pointer r_1)] : Array Value).toList 0) h := by kernel_rfl
theorem b49 : bOk Tryz.prog 49 Tryz.f49 30 ann49 = true := by kernel_rfl
set_option maxRecDepth 100000 in
theorem S49_ok {G : Heap} {K : Value → Heap → Prop} {Kp : PK} {r_1 : Option Addr} {h : Heap} (hh : S49 G K Kp r_1 h) :
    CallF Tryz.prog G 49 #[(Value.pointer r_1)] K Kp h :=
  callF_b T49 hmix Tryz.func49 Tryz.ntmps49 b49 (by kernel_rfl) (Eq.mp vc49 hh)
def S44 (G : Heap) (K : Value → Heap → Prop) (Kp : PK) (d_1 : Option Addr) (h : Heap) : Prop :=
  (CallF Tryz.prog G 61 #[(Value.pointer d_1)] (fun r_4 h => ∃ p_2 v_3, r_4 = (Value.tuple #[(Value.pointer p_2), v_3]) ∧ (CallF Tryz.prog G 62 #[(Value.pointer p_2)] (fun r_6 h => ∃ p_5, r_6 = (Value.pointer p_5) ∧ (CallF Tryz.prog G 64 #[(Value.pointer p_2)] (fun r_13 h => ∃ xa_7 xl_8 xc_9, r_13 = (Value.slice xa_7 xl_8 xc_9) ∧ CallF Tryz.prog G 63 #[(Value.pointer p_5), (Value.slice xa_7 xl_8 xc_9)] (fun r_12 h => ∃ n_10 v_11, r_12 = (Value.tuple #[(Value.int .i64 n_10), v_11]) ∧ (Rq (IsI v_11) ((If (!(isNilI v_11)) (CallF Tryz.prog G 65 #[(Value.pointer p_2), (Value.int .i64 n_10)] (fun r_15 h => ∃ v_14, r_15 = v_14 ∧ (CallF Tryz.prog G 51 #[(Value.pointer d_1)] (fun r_18 h => ∃ n_16, r_18 = (Value.int .i64 n_16) ∧ plK v_11 (newK G (.cells #[(Value.int .i64 n_16), v_11] 136) (fun r_17 h => (K (Value.tuple #[(Value.pointer p_5), (Value.iface 134 (Value.pointer (some (⟨r_17, 0, none⟩ : Addr))))]) h)) h)) Kp h)) Kp h) (((K (Value.tuple #[(Value.pointer p_5), v_3]) h))))))) Kp h) Kp h)) Kp h)) Kp h)
noncomputable def E44 : TE := mkE [R3, R32, R78, R134, R136, R137, R140, R142] false (.any)
theorem T44 : TOk Tryz.prog E44 := mkE_ok (AllOk.mem (⟨R3_ok, R32_ok, R78_ok, R134_ok, R136_ok, R137_ok, R140_ok, R142_ok, trivial⟩ : AllOk Tryz.prog [R3, R32, R78, R134, R136, R137, R140, R142]))
def ann44 : Nat → LAnn := fun _ => ⟨[], []⟩
theorem vc44 {G : Heap} {K : Value → Heap → Prop} {Kp : PK} {d_1 : Option Addr} {h : Heap} :
    S44 G K Kp d_1 h = vcC E44 Tryz.prog G 37 ann44 Kp (bodyOf Tryz.f44) (retQ E44 G Tryz.f44.results.toList K) (frmA (#[(Value.pointer d_1)] : Array Value).toList 0) h := by kernel_rfl
theorem b44 : bOk Tryz.prog 44 Tryz.f44 37 ann44 = true := by kernel_rfl
set_option maxRecDepth 100000 in
theorem S44_ok {G : Heap} {K : Value → Heap → Prop} {Kp : PK} {d_1 : Option Addr} {h : Heap} (hh : S44 G K Kp d_1 h) :
    CallF Tryz.prog G 44 #[(Value.pointer d_1)] K Kp h :=
  callF_b T44 hmix Tryz.func44 Tryz.ntmps44 b44 (by kernel_rfl) (Eq.mp vc44 hh)
def S166 (G : Heap) (K : Value → Heap → Prop) (Kp : PK) (ba_1 : Option Addr) (bl_2 : Nat) (bc_3 : Nat) (morea_4 : Option Addr) (morel_5 : Nat) (morec_6 : Nat) (h : Heap) : Prop :=
  (Rng (((bl_2 : Nat) : Int) + ((morel_5 : Nat) : Int)) (slV Tryz.prog G (Instr.makeSlice 49 (Value.int .i64 (((bl_2 : Nat) : Int) + ((morel_5 : Nat) : Int))) (Value.int .i64 (((bl_2 : Nat) : Int) + ((morel_5 : Nat) : Int)))) (fun r_10 h => ∃ xa_7 xl_8 xc_9, r_10 = (Value.slice xa_7 xl_8 xc_9) ∧ (slV Tryz.prog G (Builtin.copy_ #[49, 49] 3 #[(Value.slice xa_7 xl_8 xc_9), (Value.slice ba_1 bl_2 bc_3)]) (fun r_14 h => ∃ n_11, r_14 = (Value.int .i64 n_11) ∧ Rq ((0 : Int) ≤ n_11 ∧ n_11 ≤ (xl_8 : Int)) (slV Tryz.prog G (Builtin.copy_ #[49, 49] 3 #[(Value.slice (subA xa_7 (Int.toNat n_11) xc_9 1) (xl_8 - (Int.toNat n_11)) (xc_9 - (Int.toNat n_11))), (Value.slice morea_4 morel_5 morec_6)]) (fun r_13 h => ∃ n_12, r_13 = (Value.int .i64 n_12) ∧ ((K (Value.slice xa_7 xl_8 xc_9) h))) Kp h)) Kp h)) Kp h))
noncomputable def E166 : TE := mkE [R3, R5, R49] false (.any)
theorem T166 : TOk Tryz.prog E166 := mkE_ok (AllOk.mem (⟨R3_ok, R5_ok, R49_ok, trivial⟩ : AllOk Tryz.prog [R3, R5, R49]))
def ann166 : Nat → LAnn := fun _ => ⟨[], []⟩
theorem vc166 {G : Heap} {K : Value → Heap → Prop} {Kp : PK} {ba_1 : Option Addr} {bl_2 : Nat} {bc_3 : Nat} {morea_4 : Option Addr} {morel_5 : Nat} {morec_6 : Nat} {h : Heap} :
    S166 G K Kp ba_1 bl_2 bc_3 morea_4 morel_5 morec_6 h = vcC E166 Tryz.prog G 20 ann166 Kp (bodyOf Tryz.f166) (retQ E166 G Tryz.f166.results.toList K) (frmA (#[(Value.slice ba_1 bl_2 bc_3), (Value.slice morea_4 morel_5 morec_6)] : Array Value).toList 0) h := by kernel_rfl
theorem b166 : bOk Tryz.prog 166 Tryz.f166 20 ann166 = true := by kernel_rfl
set_option maxRecDepth 100000 in
theorem S166_ok {G : Heap} {K : Value → Heap → Prop} {Kp : PK} {ba_1 : Option Addr} {bl_2 : Nat} {bc_3 : Nat} {morea_4 : Option Addr} {morel_5 : Nat} {morec_6 : Nat} {h : Heap} (hh : S166 G K Kp ba_1 bl_2 bc_3 morea_4 morel_5 morec_6 h) :
    CallF Tryz.prog G 166 #[(Value.slice ba_1 bl_2 bc_3), (Value.slice morea_4 morel_5 morec_6)] K Kp h :=
  callF_b T166 hmix Tryz.func166 Tryz.ntmps166 b166 (by kernel_rfl) (Eq.mp vc166 hh)
def S175_k1 (G : Heap) (K : Value → Heap → Prop) (Kp : PK) (n_2 : Int)  (h : Heap) : Prop :=
  (K (Value.int .i64 n_2) h)
def S175 (G : Heap) (K : Value → Heap → Prop) (Kp : PK) (p_1 : Option Addr) (h : Heap) : Prop :=
  (CallF Tryz.prog G 174 #[(Value.pointer p_1)] (fun r_3 h => ∃ n_2, r_3 = (Value.int .i64 n_2) ∧ ((If (n_2 == 0) (NN p_1 fun a_4 => LdI G h .i64 (ad a_4 1) fun n_5 => Rng (n_5 + 1) (NN p_1 fun a_6 => st1 (ad a_6 1) (Value.int .i64 (n_5 + 1)) (fun h => (S175_k1 G K Kp n_2 h)) h)) ((S175_k1 G K Kp n_2 h))))) Kp h)
noncomputable def E175 : TE := mkE [R3, R40, R264] false (.any)
theorem T175 : TOk Tryz.prog E175 := mkE_ok (AllOk.mem (⟨R3_ok, R40_ok, R264_ok, trivial⟩ : AllOk Tryz.prog [R3, R40, R264]))
def ann175 : Nat → LAnn := fun _ => ⟨[], []⟩
theorem vc175 {G : Heap} {K : Value → Heap → Prop} {Kp : PK} {p_1 : Option Addr} {h : Heap} :
    S175 G K Kp p_1 h = vcC E175 Tryz.prog G 16 ann175 Kp (bodyOf Tryz.f175) (retQ E175 G Tryz.f175.results.toList K) (frmA (#[(Value.pointer p_1)] : Array Value).toList 0) h := by kernel_rfl
theorem b175 : bOk Tryz.prog 175 Tryz.f175 16 ann175 = true := by kernel_rfl
set_option maxRecDepth 100000 in
theorem S175_ok {G : Heap} {K : Value → Heap → Prop} {Kp : PK} {p_1 : Option Addr} {h : Heap} (hh : S175 G K Kp p_1 h) :
    CallF Tryz.prog G 175 #[(Value.pointer p_1)] K Kp h :=
  callF_b T175 hmix Tryz.func175 Tryz.ntmps175 b175 (by kernel_rfl) (Eq.mp vc175 hh)
def S54 (G : Heap) (K : Value → Heap → Prop) (Kp : PK) (b_1 : Option Addr) (h : Heap) : Prop :=
  (CallF Tryz.prog G 77 #[(Value.pointer b_1)] (fun r_3 h => ∃ n_2, r_3 = (Value.int .i64 n_2) ∧ (NN b_1 fun a_4 => LdP G h a_4 fun p_5 => CallF Tryz.prog G 78 #[(Value.pointer p_5)] (fun r_7 h => ∃ n_6, r_7 = (Value.int .i64 n_6) ∧ (CallF Tryz.prog G 77 #[(Value.pointer b_1)] (fun r_9 h => ∃ n_8, r_9 = (Value.int .i64 n_8) ∧ Rng (n_8 - n_2) ((K (Value.int .i64 (n_8 - n_2)) h))) Kp h)) Kp h)) Kp h)
noncomputable def E54 : TE := mkE [R3, R127, R131] false (.any)
theorem T54 : TOk Tryz.prog E54 := mkE_ok (AllOk.mem (⟨R3_ok, R127_ok, R131_ok, trivial⟩ : AllOk Tryz.prog [R3, R127, R131]))
def ann54 : Nat → LAnn := fun _ => ⟨[], []⟩
theorem vc54 {G : Heap} {K : Value → Heap → Prop} {Kp : PK} {b_1 : Option Addr} {h : Heap} :
    S54 G K Kp b_1 h = vcC E54 Tryz.prog G 15 ann54 Kp (bodyOf Tryz.f54) (retQ E54 G Tryz.f54.results.toList K) (frmA (#[(Value.pointer b_1)] : Array Value).toList 0) h := by kernel_rfl
theorem b54 : bOk Tryz.prog 54 Tryz.f54 15 ann54 = true := by kernel_rfl
set_option maxRecDepth 100000 in
theorem S54_ok {G : Heap} {K : Value → Heap → Prop} {Kp : PK} {b_1 : Option Addr} {h : Heap} (hh : S54 G K Kp b_1 h) :
    CallF Tryz.prog G 54 #[(Value.pointer b_1)] K Kp h :=
  callF_b T54 hmix Tryz.func54 Tryz.ntmps54 b54 (by kernel_rfl) (Eq.mp vc54 hh)
def S141 (G : Heap) (K : Value → Heap → Prop) (Kp : PK) (ba_1 : Option Addr) (bl_2 : Nat) (bc_3 : Nat) (n_4 : Int) (h : Heap) : Prop :=
  (newK G (.cells #[(Value.int .u8 (IntKind.wrap .u8 n_4))] 5) (fun r_5 h => CallF Tryz.prog G 166 #[(Value.slice ba_1 bl_2 bc_3), (Value.slice (some (⟨r_5, 0, none⟩ : Addr)) 1 1)] (fun r_9 h => ∃ xa_6 xl_7 xc_8, r_9 = (Value.slice xa_6 xl_7 xc_8) ∧ (K (Value.slice xa_6 xl_7 xc_8) h)) Kp h) h)
noncomputable def E141 : TE := mkE [R5, R49, R241] false (.any)
theorem T141 : TOk Tryz.prog E141 := mkE_ok (AllOk.mem (⟨R5_ok, R49_ok, R241_ok, trivial⟩ : AllOk Tryz.prog [R5, R49, R241]))
def ann141 : Nat → LAnn := fun _ => ⟨[], []⟩
theorem vc141 {G : Heap} {K : Value → Heap → Prop} {Kp : PK} {ba_1 : Option Addr} {bl_2 : Nat} {bc_3 : Nat} {n_4 : Int} {h : Heap} :
    S141 G K Kp ba_1 bl_2 bc_3 n_4 h = vcC E141 Tryz.prog G 10 ann141 Kp (bodyOf Tryz.f141) (retQ E141 G Tryz.f141.results.toList K) (frmA (#[(Value.slice ba_1 bl_2 bc_3), (Value.int .u64 n_4)] : Array Value).toList 0) h := by kernel_rfl
theorem b141 : bOk Tryz.prog 141 Tryz.f141 10 ann141 = true := by kernel_rfl
set_option maxRecDepth 100000 in
theorem S141_ok {G : Heap} {K : Value → Heap → Prop} {Kp : PK} {ba_1 : Option Addr} {bl_2 : Nat} {bc_3 : Nat} {n_4 : Int} {h : Heap} (hh : S141 G K Kp ba_1 bl_2 bc_3 n_4 h) :
    CallF Tryz.prog G 141 #[(Value.slice ba_1 bl_2 bc_3), (Value.int .u64 n_4)] K Kp h :=
  callF_b T141 hmix Tryz.func141 Tryz.ntmps141 b141 (by kernel_rfl) (Eq.mp vc141 hh)
def S16_k1 (G : Heap) (K : Value → Heap → Prop) (Kp : PK)  (r_3 : Int) (h : Heap) : Prop :=
  (K (Value.int .i64 r_3) h)
def S16 (G : Heap) (K : Value → Heap → Prop) (Kp : PK) (at_1 : Int) (n_2 : Int) (h : Heap) : Prop :=
  (Rq ((n_2 : Int) ≠ 0) (((If (decide ((Int.tmod at_1 n_2) < 0)) (Rng ((Int.tmod at_1 n_2) + n_2) ((S16_k1 G K Kp ((Int.tmod at_1 n_2) + n_2) h))) ((S16_k1 G K Kp (Int.tmod at_1 n_2) h))))))
noncomputable def E16 : TE := mkE [] false (.any)
theorem T16 : TOk Tryz.prog E16 := mkE_ok (AllOk.mem (trivial : AllOk Tryz.prog []))
def ann16 : Nat → LAnn := fun _ => ⟨[], []⟩
theorem vc16 {G : Heap} {K : Value → Heap → Prop} {Kp : PK} {at_1 : Int} {n_2 : Int} {h : Heap} :
    S16 G K Kp at_1 n_2 h = vcC E16 Tryz.prog G 15 ann16 Kp (bodyOf Tryz.f16) (retQ E16 G Tryz.f16.results.toList K) (frmA (#[(Value.int .i64 at_1), (Value.int .i64 n_2)] : Array Value).toList 0) h := by kernel_rfl
theorem b16 : bOk Tryz.prog 16 Tryz.f16 15 ann16 = true := by kernel_rfl
set_option maxRecDepth 100000 in
theorem S16_ok {G : Heap} {K : Value → Heap → Prop} {Kp : PK} {at_1 : Int} {n_2 : Int} {h : Heap} (hh : S16 G K Kp at_1 n_2 h) :
    CallF Tryz.prog G 16 #[(Value.int .i64 at_1), (Value.int .i64 n_2)] K Kp h :=
  callF_b T16 hmix Tryz.func16 Tryz.ntmps16 b16 (by kernel_rfl) (Eq.mp vc16 hh)
def S176 (G : Heap) (K : Value → Heap → Prop) (Kp : PK) (p_1 : Option Addr) (h : Heap) : Prop :=
  (NN p_1 fun a_2 => LdI G h .i64 (ad a_2 1) fun n_3 => NN p_1 fun a_4 => LdSl G h (ad a_4 3) fun xa_5 xl_6 xc_7 => Rng (n_3 + ((xl_6 : Nat) : Int)) ((K (Value.int .i64 (n_3 + ((xl_6 : Nat) : Int))) h)))
noncomputable def E176 : TE := mkE [R3, R33, R261] false (.any)
theorem T176 : TOk Tryz.prog E176 := mkE_ok (AllOk.mem (⟨R3_ok, R33_ok, R261_ok, trivial⟩ : AllOk Tryz.prog [R3, R33, R261]))
def ann176 : Nat → LAnn := fun _ => ⟨[], []⟩
theorem vc176 {G : Heap} {K : Value → Heap → Prop} {Kp : PK} {p_1 : Option Addr} {h : Heap} :
    S176 G K Kp p_1 h = vcC E176 Tryz.prog G 13 ann176 Kp (bodyOf Tryz.f176) (retQ E176 G Tryz.f176.results.toList K) (frmA (#[(Value.pointer p_1)] : Array Value).toList 0) h := by kernel_rfl
theorem b176 : bOk Tryz.prog 176 Tryz.f176 13 ann176 = true := by kernel_rfl
set_option maxRecDepth 100000 in
theorem S176_ok {G : Heap} {K : Value → Heap → Prop} {Kp : PK} {p_1 : Option Addr} {h : Heap} (hh : S176 G K Kp p_1 h) :
    CallF Tryz.prog G 176 #[(Value.pointer p_1)] K Kp h :=
  callF_b T176 hmix Tryz.func176 Tryz.ntmps176 b176 (by kernel_rfl) (Eq.mp vc176 hh)
def S88 (G : Heap) (K : Value → Heap → Prop) (Kp : PK) (first_1 : Bool) (h : Heap) : Prop :=
  (newK G (.cells #[(Value.slice none 0 0), (Value.int .i64 0), (Value.bool first_1)] 223) (fun r_2 h => (K (Value.pointer (some (⟨r_2, 0, none⟩ : Addr))) h)) h)
noncomputable def E88 : TE := mkE [R4, R221, R223] false (.any)
theorem T88 : TOk Tryz.prog E88 := mkE_ok (AllOk.mem (⟨R4_ok, R221_ok, R223_ok, trivial⟩ : AllOk Tryz.prog [R4, R221, R223]))
def ann88 : Nat → LAnn := fun _ => ⟨[], []⟩
theorem vc88 {G : Heap} {K : Value → Heap → Prop} {Kp : PK} {first_1 : Bool} {h : Heap} :
    S88 G K Kp first_1 h = vcC E88 Tryz.prog G 6 ann88 Kp (bodyOf Tryz.f88) (retQ E88 G Tryz.f88.results.toList K) (frmA (#[(Value.bool first_1)] : Array Value).toList 0) h := by kernel_rfl
theorem b88 : bOk Tryz.prog 88 Tryz.f88 6 ann88 = true := by kernel_rfl
set_option maxRecDepth 100000 in
theorem S88_ok {G : Heap} {K : Value → Heap → Prop} {Kp : PK} {first_1 : Bool} {h : Heap} (hh : S88 G K Kp first_1 h) :
    CallF Tryz.prog G 88 #[(Value.bool first_1)] K Kp h :=
  callF_b T88 hmix Tryz.func88 Tryz.ntmps88 b88 (by kernel_rfl) (Eq.mp vc88 hh)
def S233 (G : Heap) (K : Value → Heap → Prop) (Kp : PK) (a_1 : Int) (b_2 : Int) (first_3 : Bool) (h : Heap) : Prop :=
  ((K (Value.tuple #[(Value.int .i64 a_1), (Value.bool true)]) h))
noncomputable def E233 : TE := mkE [] false (.any)
theorem T233 : TOk Tryz.prog E233 := mkE_ok (AllOk.mem (trivial : AllOk Tryz.prog []))
def ann233 : Nat → LAnn := fun _ => ⟨[], []⟩
theorem vc233 {G : Heap} {K : Value → Heap → Prop} {Kp : PK} {a_1 : Int} {b_2 : Int} {first_3 : Bool} {h : Heap} :
    S233 G K Kp a_1 b_2 first_3 h = vcC E233 Tryz.prog G 9 ann233 Kp (bodyOf Tryz.f233) (retQ E233 G Tryz.f233.results.toList K) (frmA (#[(Value.int .i64 a_1), (Value.int .i64 b_2), (Value.bool first_3)] : Array Value).toList 0) h := by kernel_rfl
theorem b233 : bOk Tryz.prog 233 Tryz.f233 9 ann233 = true := by kernel_rfl
set_option maxRecDepth 100000 in
theorem S233_ok {G : Heap} {K : Value → Heap → Prop} {Kp : PK} {a_1 : Int} {b_2 : Int} {first_3 : Bool} {h : Heap} (hh : S233 G K Kp a_1 b_2 first_3 h) :
    CallF Tryz.prog G 233 #[(Value.int .i64 a_1), (Value.int .i64 b_2), (Value.bool first_3)] K Kp h :=
  callF_b T233 hmix Tryz.func233 Tryz.ntmps233 b233 (by kernel_rfl) (Eq.mp vc233 hh)
def S168 (G : Heap) (K : Value → Heap → Prop) (Kp : PK) (p_1 : Option Addr) (h : Heap) : Prop :=
  (NN p_1 fun a_2 => LdI G h .i64 (ad a_2 2) fun n_3 => (K (Value.int .i64 n_3) h))
noncomputable def E168 : TE := mkE [R3, R261] false (.any)
theorem T168 : TOk Tryz.prog E168 := mkE_ok (AllOk.mem (⟨R3_ok, R261_ok, trivial⟩ : AllOk Tryz.prog [R3, R261]))
def ann168 : Nat → LAnn := fun _ => ⟨[], []⟩
theorem vc168 {G : Heap} {K : Value → Heap → Prop} {Kp : PK} {p_1 : Option Addr} {h : Heap} :
    S168 G K Kp p_1 h = vcC E168 Tryz.prog G 7 ann168 Kp (bodyOf Tryz.f168) (retQ E168 G Tryz.f168.results.toList K) (frmA (#[(Value.pointer p_1)] : Array Value).toList 0) h := by kernel_rfl
theorem b168 : bOk Tryz.prog 168 Tryz.f168 7 ann168 = true := by kernel_rfl
set_option maxRecDepth 100000 in
theorem S168_ok {G : Heap} {K : Value → Heap → Prop} {Kp : PK} {p_1 : Option Addr} {h : Heap} (hh : S168 G K Kp p_1 h) :
    CallF Tryz.prog G 168 #[(Value.pointer p_1)] K Kp h :=
  callF_b T168 hmix Tryz.func168 Tryz.ntmps168 b168 (by kernel_rfl) (Eq.mp vc168 hh)
end Go.Sl
set_option maxRecDepth 100000
namespace Go.Sl
open Go Go.Proofs
def eU8 : En UInt8 := ⟨5, 1, fun b => [.int .u8 b.toNat], 0⟩
theorem eU8_ok : eU8.Ok := ⟨fun _ => rfl, by decide, fun x v hv => by simp [eU8] at hv; subst hv; rfl⟩
theorem tU8 : SlT Tryz.prog 49 eU8 := ⟨eU8_ok, rfl, ⟨_, rfl, rfl, by decide, _, rfl, rfl⟩⟩
def eU32 : En Int := ⟨239, 1, fun b => [.int .u32 b], 0⟩
theorem eU32_ok : eU32.Ok := ⟨fun _ => rfl, by decide, fun x v hv => by simp [eU32] at hv; subst hv; rfl⟩
def tabL : List Int := [0, 498536548, 997073096, 651767980, 1994146192, 1802195444, 1303535960, 1342533948, 3988292384, 4027552580, 3604390888, 3412177804, 2607071920, 2262029012, 2685067896, 3183342108]
def tab (i : Int) : Int := tabL.getD i.toNat 0
def crcS (r : Int) (c : UInt8) : Int :=
  let x := bitsI .xor .u32 r (IntKind.wrap .u32 c.toNat)
  let y := bitsI .xor .u32 (Int.fdiv x (2 ^ 4)) (tab (bitsI .and .u32 x 15))
  bitsI .xor .u32 (Int.fdiv y (2 ^ 4)) (tab (bitsI .and .u32 y 15))
def crc (bs : List UInt8) : Int := bitsI .xor .u32 (if IntKind.signed .u32 = true then -1 else IntKind.max .u32) (bs.foldl crcS 4294967295)
/-- The read-only variables. -/
structure Gl (G : Heap) : Prop where
  table : ∃ t z, G 5 = some (.cells (eU32.F tabL).toArray t z)
theorem and15 (x : Int) : 0 ≤ bitsI .and .u32 x 15 ∧ bitsI .and .u32 x 15 < 16 := by
  have h : ((BitVec.ofInt 32 x &&& BitVec.ofInt 32 15).toNat) ≤ 15 := by
    rw [BitVec.toNat_and]; exact Nat.and_le_right
  have e : bitsI .and .u32 x 15 = IntKind.u32.wrap ((BitVec.ofInt 32 x &&& BitVec.ofInt 32 15).toNat) := rfl
  have w : ∀ n : Nat, n ≤ 15 → IntKind.u32.wrap n = n := by
    intro n hn
    have : n = 0 ∨ n = 1 ∨ n = 2 ∨ n = 3 ∨ n = 4 ∨ n = 5 ∨ n = 6 ∨ n = 7 ∨ n = 8 ∨ n = 9 ∨ n = 10 ∨ n = 11 ∨ n = 12 ∨ n = 13 ∨ n = 14 ∨ n = 15 := by omega
    rcases this with h | h | h | h | h | h | h | h | h | h | h | h | h | h | h | h <;> subst h <;> rfl
  rw [e, w _ h]; omega
theorem tab_cell {G h : Heap} {L : List Heap} (hO : Own G h L) (hG : Gl G) {i : Int} (hi : 0 ≤ i ∧ i < 16) : hcell (rd G h) ((⟨5, 0, none⟩ : Addr).add (i.toNat * 1)) = some (.int .u32 (tab i)) := by
  obtain ⟨t, z, hg⟩ := hG.table
  rw [add_mk]
  refine glob_cell hO hg ?_
  have hi2 : i.toNat < 16 := by omega
  simp only [ocell, Option.isSome_none, Bool.false_eq_true, if_false, List.getElem?_toArray]
  have := En.F_get eU32_ok (xs := tabL) (i := i.toNat) (j := 0) (x := tab i) (by unfold tab; rw [List.getD_eq_getElem?_getD]; rw [List.getElem?_eq_getElem (by exact hi2)]; rfl) (by decide)
  rw [show (0 : Nat) + i.toNat * 1 = i.toNat * eU32.m + 0 by simp [eU32], this]; rfl

theorem octSum {G h : Heap} {L : List Heap} {p : Option Addr} {l c : Nat} {bs : List UInt8} {K : Value → Heap → Prop} {Kp : PK} (hG : Gl G) (hO : Own G h L) (hr : Rdl L eU8 p l bs) (hsm : l ≤ 4294967296)
    (hK : K (.int .u32 (crc bs)) h) : CallF Tryz.prog G 165 #[.slice p l c] K Kp h := by
  refine S165_ok ?_
  have hl := hr.len hO
  unfold S165
  refine LoopS.go (fun vs h' => h' = h ∧ ∃ n : Nat, n ≤ l ∧ vs = [.int .u32 ((bs.take n).foldl crcS 4294967295), .int .i64 n]) (fun vs _ => match vs with | [_, .int _ n] => (l - n).toNat | _ => 0) ⟨rfl, 0, by omega, by simp⟩ ?_
  rintro jv vs h' ⟨rfl, n, hn, rfl⟩
  unfold S165_l3
  refine ⟨_, _, rfl, ?_⟩
  refine If.dec (fun hlt => ?_) (fun hlt => ?_)
  · refine Rq.go ⟨by omega, hlt⟩ ?_
    obtain ⟨x, hx, hn'⟩ := hr.at eU8_ok hO (i := (n : Int)) (by omega) hlt
    refine hn' _ fun a _ hc => ?_
    refine LdI.i (hc 0 _ rfl) ?_
    refine Rq.go (by omega) (Rq.go (and15 _) (LdI.i (tab_cell hO hG (and15 _)) (Rq.go (by omega) (Rq.go (and15 _) (LdI.i (tab_cell hO hG (and15 _)) (Rng.go (by omega) ?_))))))
    refine ⟨⟨rfl, n + 1, by omega, ?_⟩, ?_⟩
    · have hx' : bs[n]? = some x := by simpa using hx
      have : bs.take (n + 1) = bs.take n ++ [x] := by
        rw [List.take_add_one, hx']; rfl
      rw [this, List.foldl_append]
      rfl
    · simp only; omega
  · unfold S165_k1
    have : n = l := by omega
    subst this
    rw [hl, List.take_length]
    exact hK
end Go.Sl
set_option maxRecDepth 100000
namespace Go.Sl
open Go Go.Proofs
theorem wrap8 (n : Int) : 0 ≤ IntKind.u8.wrap n ∧ IntKind.u8.wrap n < 256 := by
  have h : IntKind.u8.wrap n = n % 256 := by
    simp [IntKind.wrap, IntKind.signed, IntKind.bits]
  rw [h]; omega
def byt (n : Int) : UInt8 := UInt8.ofNat (IntKind.u8.wrap n).toNat
theorem byt_nat (n : Int) : ((byt n).toNat : Int) = IntKind.u8.wrap n := by
  have := wrap8 n
  unfold byt
  rw [UInt8.toNat_ofNat']
  omega
theorem octWith {G h : Heap} {L : List Heap} {p p2 : Option Addr} {l c l2 c2 : Nat} {bs ms : List UInt8} {K : Value → Heap → Prop} {Kp : PK} (hO : Own G h L) (hr : Rdl L eU8 p l bs) (hr2 : Rdl L eU8 p2 l2 ms) (hsm : l + l2 ≤ 4294967296)
    (hK : ∀ h' b pc, Sli eU8 (some ⟨b, 0, none⟩) (l + l2) (l + l2) (bs ++ ms) pc → Own G h' (pc :: L) → K (.slice (some ⟨b, 0, none⟩) (l + l2) (l + l2)) h') : CallF Tryz.prog G 166 #[.slice p l c, .slice p2 l2 c2] K Kp h := by
  refine S166_ok ?_
  have hl := hr.len hO
  have hl2 := hr2.len hO
  unfold S166
  refine Rng.go (by omega) ?_
  refine make_go tU8 hO (by omega) (by omega) (by omega) fun h b pc hs hO => ?_
  rw [show ((l : Int) + (l2 : Int)).toNat = l + l2 by omega] at hs ⊢
  refine ⟨_, _, _, rfl, ?_⟩
  refine copy_go tU8 hO (.refl _) hs (hr G h hO.tail) 0 (by omega) (fun h pc' hs hO => ?_) (by simp [Addr.add]) (by omega)
  refine ⟨_, rfl, Rq.go (by omega) ?_⟩
  rw [Int.toNat_natCast]
  have hsub : (if 0 < l2 then subA (some ⟨b, 0, none⟩) l (l + l2) 1 else subA (some ⟨b, 0, none⟩) l (l + l2) 1) = subA (some ⟨b, 0, none⟩) l (l + l2) 1 := by simp
  by_cases h0 : l2 = 0
  · subst h0
    have hms : ms = [] := List.length_eq_zero_iff.1 hl2.symm
    subst hms
    simp only [subA, Nat.add_zero, if_true]
    refine copy_go tU8 hO (.refl _) hs (hr2 G h hO.tail) 0 (by omega) (fun h pc'' hs hO => ?_) (by simp [Addr.add]) (by omega)
    refine ⟨_, rfl, hK _ _ _ ?_ hO⟩
    simp only [Nat.add_zero, Nat.zero_add, List.take_zero, List.nil_append, List.append_nil, List.drop_zero] at hs ⊢
    rw [List.drop_eq_nil_of_le (by simp <;> omega), List.append_nil] at hs
    exact hs
  · simp only [subA, if_neg (show ¬ l + l2 = l by omega)]
    refine copy_go tU8 hO (.refl _) hs (hr2 G h hO.tail) l (by omega) (fun h pc'' hs hO => ?_) (by simp [eU8]) (by omega)
    refine ⟨_, rfl, hK _ _ _ ?_ hO⟩
    have e : (List.take l (List.take 0 (List.replicate (l + l2) eU8.z) ++ bs ++ List.drop (0 + l) (List.replicate (l + l2) eU8.z)) ++ ms ++ List.drop (l + l2) (List.take 0 (List.replicate (l + l2) eU8.z) ++ bs ++ List.drop (0 + l) (List.replicate (l + l2) eU8.z))) = bs ++ ms := by
      rw [List.take_zero, List.nil_append, List.take_append_of_le_length (by omega), hl, List.take_length, List.drop_eq_nil_of_le (by simp <;> omega), List.append_nil]
    rw [e] at hs
    exact hs

/-- with, where the new bytes lie in a block just made. -/
theorem octWithLit {G h : Heap} {L : List Heap} {p : Option Addr} {l c b n : Nat} {bs ms : List UInt8} {cs : Array Value} {t : TypeId} {z : Nat × Nat} {K : Value → Heap → Prop} {Kp : PK} (hO : Own G h (single b (.cells cs t z) :: L)) (hr : Rdl L eU8 p l bs) (hcs : cs = (eU8.F ms).toArray) (hn : n = ms.length) (hsm : l + n ≤ 4294967296)
    (hK : ∀ h' b pc, Sli eU8 (some ⟨b, 0, none⟩) (l + n) (l + n) (bs ++ ms) pc → Own G h' (pc :: L) → K (.slice (some ⟨b, 0, none⟩) (l + n) (l + n)) h') : CallF Tryz.prog G 166 #[.slice p l c, .slice (some ⟨b, 0, none⟩) n n] K Kp h :=
  octWith hO (hr.cons _) (Rdl.lit (by rw [hcs]) hn) hsm fun h' b' pc hs hO => hK h' b' pc hs hO.drop2

theorem octPut8 {G h : Heap} {L : List Heap} {p : Option Addr} {l c : Nat} {bs : List UInt8} {n : Int} {K : Value → Heap → Prop} {Kp : PK} (hO : Own G h L) (hr : Rdl L eU8 p l bs) (hsm : l + 1 ≤ 4294967296)
    (hK : ∀ h' b pc, Sli eU8 (some ⟨b, 0, none⟩) (l + 1) (l + 1) (bs ++ [byt n]) pc → Own G h' (pc :: L) → K (.slice (some ⟨b, 0, none⟩) (l + 1) (l + 1)) h') : CallF Tryz.prog G 141 #[.slice p l c, .int .u64 n] K Kp h := by
  refine S141_ok ?_
  unfold S141
  refine newK.go hO ?_
  intro r h hO
  refine octWithLit hO hr (ms := [byt n]) (by simp [En.F, eU8, byt_nat]) rfl hsm fun h b pc hs hO => ?_
  exact ⟨_, _, _, rfl, hK _ _ _ hs hO⟩
theorem octPut16 {G h : Heap} {L : List Heap} {p : Option Addr} {l c : Nat} {bs : List UInt8} {n : Int} {K : Value → Heap → Prop} {Kp : PK} (hO : Own G h L) (hr : Rdl L eU8 p l bs) (hsm : l + 2 ≤ 4294967296)
    (hK : ∀ h' b pc, Sli eU8 (some ⟨b, 0, none⟩) (l + 2) (l + 2) (bs ++ [byt (Int.fdiv n (2 ^ 8)), byt n]) pc → Own G h' (pc :: L) → K (.slice (some ⟨b, 0, none⟩) (l + 2) (l + 2)) h') : CallF Tryz.prog G 142 #[.slice p l c, .int .u64 n] K Kp h := by
  refine S142_ok ?_
  unfold S142
  refine Rq.go (by omega) (newK.go hO ?_)
  intro r h hO
  refine octWithLit hO hr (ms := [byt (Int.fdiv n (2 ^ 8)), byt n]) (by simp [En.F, eU8, byt_nat]) rfl hsm fun h b pc hs hO => ?_
  exact ⟨_, _, _, rfl, hK _ _ _ hs hO⟩
def sum4 (s : Int) : List UInt8 := [byt s, byt (Int.fdiv s (2 ^ 8)), byt (Int.fdiv s (2 ^ 16)), byt (Int.fdiv s (2 ^ 24))]
theorem octSeal {G h : Heap} {L : List Heap} {p : Option Addr} {l c : Nat} {bs : List UInt8} {K : Value → Heap → Prop} {Kp : PK} (hG : Gl G) (hO : Own G h L) (hr : Rdl L eU8 p l bs) (hsm : l + 4 ≤ 4294967296)
    (hK : ∀ h' b pc, Sli eU8 (some ⟨b, 0, none⟩) (l + 4) (l + 4) (bs ++ sum4 (crc bs)) pc → Own G h' (pc :: L) → K (.slice (some ⟨b, 0, none⟩) (l + 4) (l + 4)) h') : CallF Tryz.prog G 133 #[.slice p l c] K Kp h := by
  refine S133_ok ?_
  unfold S133
  refine octSum hG hO hr (by omega) ?_
  refine ⟨_, rfl, Rq.go (by omega) (Rq.go (by omega) (Rq.go (by omega) (newK.go hO ?_)))⟩
  intro r h hO
  refine octWithLit hO hr (ms := sum4 (crc bs)) (by simp [En.F, eU8, sum4, byt_nat]) rfl hsm fun h b pc hs hO => ?_
  exact ⟨_, _, _, rfl, hK _ _ _ hs hO⟩
/-- Open of what was sealed. -/
theorem octOpen {G h : Heap} {L : List Heap} {b o l c : Nat} {bs : List UInt8} {K : Value → Heap → Prop} {Kp : PK} (hG : Gl G) (hO : Own G h L) (hr : Rdl L eU8 (some ⟨b, o, none⟩) l (bs ++ sum4 (crc bs))) (hc : l ≤ c) (hsm : l ≤ 4294967296)
    (hK : ∀ h' b pc, Sli eU8 (some ⟨b, 0, none⟩) bs.length bs.length bs pc → Own G h' (pc :: L) → K (.tuple #[.slice (some ⟨b, 0, none⟩) bs.length bs.length, .nilIface]) h') : CallF Tryz.prog G 158 #[.slice (some ⟨b, o, none⟩) l c] K Kp h := by
  refine S158_ok ?_
  have hl : l = bs.length + 4 := by have := hr.len hO; simpa [sum4] using this
  have hr0 : Rdl L eU8 (some ⟨b, o, none⟩) bs.length bs := by
    have := hr.part eU8_ok 0 bs.length (by omega)
    simpa using this
  unfold S158
  refine If.dec (fun _ => by omega) (fun _ => Rng.go (by omega) (Rq.go (by omega) ?_))
  rw [show ((l : Int) - 4).toNat = bs.length by omega]
  refine octSum hG hO hr0 (by omega) ⟨_, rfl, ?_⟩
  refine LoopS.go (fun vs h' => h' = h ∧ ∃ n : Nat, n ≤ 4 ∧ vs = [.int .i64 n]) (fun vs _ => match vs with | [.int _ n] => (4 - n).toNat | _ => 0) ⟨rfl, 0, by omega, by simp⟩ ?_
  rintro jv vs h' ⟨rfl, n, hn, rfl⟩
  unfold S158_l6
  refine ⟨_, rfl, ?_⟩
  refine If.dec (fun hlt => ?_) (fun hlt => ?_)
  · refine Rng.go (by omega) (Rq.go (by omega) ?_)
    obtain ⟨x, hx, hn'⟩ := hr.at eU8_ok hO (i := (l : Int) - 4 + n) (by omega) (by omega)
    refine hn' _ fun a _ hc => ?_
    refine LdI.i (hc 0 _ rfl) (Rng.go (by omega) (Rq.go (by omega) ?_))
    have hx2 : (sum4 (crc bs))[n]? = some x := by
      rw [show ((l : Int) - 4 + n).toNat = bs.length + n by omega, List.getElem?_append_right (by omega)] at hx
      rw [← hx]; congr 1; omega
    refine If.f ?_ (Rng.go (by omega) ⟨⟨rfl, n + 1, by omega, rfl⟩, ?_⟩)
    · have : n = 0 ∨ n = 1 ∨ n = 2 ∨ n = 3 := by omega
      rcases this with h | h | h | h <;> subst h <;> simp only [sum4, List.getElem?_cons_zero, List.getElem?_cons_succ, Option.some.injEq] at hx2 <;> subst hx2 <;> rw [byt_nat] <;> simp
    · simp only; omega
  · unfold S158_k1
    refine Rq.go (by omega) ?_
    rw [show ((l : Int) - 4).toNat = bs.length by omega]
    refine octWith hO hr0 (Rdl.nil _ _) (by omega) fun h' b pc hs hO => ?_
    exact ⟨_, _, _, rfl, hK _ _ _ (by simpa using hs) hO⟩
end Go.Sl
set_option maxRecDepth 100000
namespace Go.Sl
open Go Go.Proofs
theorem or8 {v : Int} {b : UInt8} (h0 : 0 ≤ v) (h1 : v < 16777216) : bitsI .or .u32 (IntKind.wrap .u32 (v * 2 ^ 8)) (IntKind.wrap .u32 b.toNat) = v * 256 + b.toNat := by
  have hb : b.toNat < 256 := b.toNat_lt
  have w : ∀ x : Int, 0 ≤ x → x < 4294967296 → IntKind.u32.wrap x = x := fun x h0 h1 => by
    have : IntKind.u32.wrap x = x % 4294967296 := by simp [IntKind.wrap, IntKind.signed, IntKind.bits]
    rw [this]; omega
  obtain ⟨n, rfl⟩ : ∃ n : Nat, v = n := ⟨v.toNat, by omega⟩
  rw [w _ (by omega) (by omega), w _ (by omega) (by omega)]
  have e : bitsI .or .u32 ((n : Int) * 2 ^ 8) (b.toNat : Int) = IntKind.u32.wrap ((BitVec.ofInt 32 ((n : Int) * 2 ^ 8) ||| BitVec.ofInt 32 (b.toNat : Int)).toNat) := rfl
  rw [e, BitVec.toNat_or]
  have t1 : (BitVec.ofInt 32 ((n : Int) * 2 ^ 8)).toNat = 2 ^ 8 * n := by
    rw [BitVec.toNat_ofInt]; omega
  have t2 : (BitVec.ofInt 32 (b.toNat : Int)).toNat = b.toNat := by
    rw [BitVec.toNat_ofInt]; omega
  rw [t1, t2, ← Nat.two_pow_add_eq_or_of_lt (by omega), w _ (by omega) (by omega)]
  omega
def rdr (b : Nat) (q : Option Addr) (l k at_ : Nat) (z : Nat × Nat) : Heap := single b (.cells #[.slice q l k, .int .i64 at_, .nilIface] 318 z)
theorem octNewReader {G h : Heap} {L : List Heap} {p : Option Addr} {l c : Nat} {bs : List UInt8} {K : Value → Heap → Prop} {Kp : PK} (hO : Own G h L) (hr : Rdl L eU8 p l bs) (hsm : l ≤ 4294967296)
    (hK : ∀ h' b q pc, Sli eU8 (some ⟨q, 0, none⟩) l l bs pc → Own G h' (rdr b (some ⟨q, 0, none⟩) l l 0 (0, 0) :: pc :: L) → K (.pointer (some ⟨b, 0, none⟩)) h') : CallF Tryz.prog G 154 #[.slice p l c] K Kp h := by
  refine S154_ok ?_
  unfold S154
  refine octWith hO hr (Rdl.nil _ _) (by omega) fun h b pc hs hO => ?_
  refine ⟨_, _, _, rfl, newK.go hO ?_⟩
  intro r h hO
  exact hK _ _ _ _ (by simpa using hs) hO
theorem octNext {G h : Heap} {L : List Heap} {b q l k at_ n : Nat} {z : Nat × Nat} {bs : List UInt8} {K : Value → Heap → Prop} {Kp : PK} (hz : z = (0, 0)) (hO : Own G h (rdr b (some ⟨q, 0, none⟩) l k at_ z :: L)) (hr : Rdl L eU8 (some ⟨q, 0, none⟩) l bs) (hk : l ≤ k) (hsm : k ≤ 4294967296) (hn : 1 ≤ n) (hl : at_ + n ≤ l)
    (hK : ∀ h' c', Own G h' (rdr b (some ⟨q, 0, none⟩) l k (at_ + n) z :: L) → Rdl L eU8 (some ⟨q, at_, none⟩) n ((bs.drop at_).take n) → K (.slice (some ⟨q, at_, none⟩) n c') h') : CallF Tryz.prog G 186 #[.pointer (some ⟨b, 0, none⟩), .int .i64 n] K Kp h := by
  subst hz
  refine S186_ok ?_
  have hp : Rdl L eU8 (some ⟨q, at_, none⟩) n ((bs.drop at_).take n) := by
    have := hr.part eU8_ok at_ n hl
    simpa [eU8] using this
  unfold rdr at hO
  unfold S186
  refine NN.go (LdV.go hO (by with_unfolding_all rfl) (Rq.go (.inl rfl) (If.t rfl (If.dec (fun _ => by omega) fun _ => ?_))))
  refine NN.go (LdSl.go hO (by with_unfolding_all rfl) (NN.go (LdI.go hO (by with_unfolding_all rfl) (Rng.go (by omega) ?_))))
  unfold S186_k1
  refine If.f (by simp; omega) ?_
  unfold S186_k2
  refine NN.go (LdV.go hO (by with_unfolding_all rfl) (Rq.go (.inl rfl) (If.f rfl ?_)))
  refine NN.go (LdSl.go hO (by with_unfolding_all rfl) (NN.go (LdI.go hO (by with_unfolding_all rfl) (NN.go (LdI.go hO (by with_unfolding_all rfl) (Rng.go (by omega) (Rq.go (by omega) (Rq.go (by omega) ?_))))))))
  refine NN.go (LdI.go hO (by with_unfolding_all rfl) (Rng.go (by omega) (NN.go ?_)))
  refine st1.g hO ?_
  intro h hO
  have e : subA (some ⟨q, 0, none⟩) (at_ : Int).toNat k 1 = some ⟨q, at_, none⟩ := by
    unfold subA
    rw [if_neg (by omega)]
    simp [add_mk]
  rw [e]
  have e2 : ((at_ : Int) + (n : Int)).toNat - (at_ : Int).toNat = n := by omega
  rw [e2]
  exact hK _ _ hO hp
def numS (v : Int) (b : UInt8) : Int := bitsI .or .u32 (IntKind.wrap .u32 (v * 2 ^ 8)) (IntKind.wrap .u32 b.toNat)
theorem octNumber {G h : Heap} {L : List Heap} {b q l k at_ n : Nat} {bs : List UInt8} {K : Value → Heap → Prop} {Kp : PK} (hO : Own G h (rdr b (some ⟨q, 0, none⟩) l k at_ (0, 0) :: L)) (hr : Rdl L eU8 (some ⟨q, 0, none⟩) l bs) (hk : l ≤ k) (hsm : k ≤ 4294967296) (hn : 1 ≤ n) (hl : at_ + n ≤ l)
    (hK : ∀ h', Own G h' (rdr b (some ⟨q, 0, none⟩) l k (at_ + n) (0, 0) :: L) → K (.int .u32 (((bs.drop at_).take n).foldl numS 0)) h') : CallF Tryz.prog G 180 #[.pointer (some ⟨b, 0, none⟩), .int .i64 n] K Kp h := by
  refine S180_ok ?_
  unfold S180
  refine octNext rfl hO hr hk hsm hn hl fun h c' hO hr => ?_
  refine ⟨_, _, _, rfl, ?_⟩
  have hlen := (hr.cons (rdr b (some ⟨q, 0, none⟩) l k (at_ + n) (0, 0))).len hO
  generalize (bs.drop at_).take n = ys at *
  refine LoopS.go (fun vs h' => h' = h ∧ ∃ m : Nat, m ≤ n ∧ vs = [.int .u32 ((ys.take m).foldl numS 0), .int .i64 m]) (fun vs _ => match vs with | [_, .int _ m] => (n - m).toNat | _ => 0) ⟨rfl, 0, by omega, by simp⟩ ?_
  rintro jv vs h' ⟨rfl, m, hm, rfl⟩
  unfold S180_l3
  refine ⟨_, _, rfl, If.dec (fun hlt => ?_) (fun hlt => ?_)⟩
  · refine Rq.go ⟨by omega, hlt⟩ ?_
    obtain ⟨x, hx, hn'⟩ := (hr.cons _).at eU8_ok hO (i := (m : Int)) (by omega) hlt
    refine hn' _ fun a _ hc => ?_
    refine LdI.i (hc 0 _ rfl) (Rq.go (by omega) (Rng.go (by omega) ⟨⟨rfl, m + 1, by omega, ?_⟩, ?_⟩))
    · have hx' : ys[m]? = some x := by simpa using hx
      have : ys.take (m + 1) = ys.take m ++ [x] := by
        rw [List.take_add_one, hx']; rfl
      rw [this, List.foldl_append]
      rfl
    · simp only; omega
  · unfold S180_k1
    have : m = n := by omega
    subst this
    rw [hlen, List.take_length]
    exact hK _ hO
theorem wrap64n (n : Nat) (h : n < 65536) : IntKind.i64.wrap (n : Int) = n := wrap_i64 (by omega) (by omega)
theorem octU8 {G h : Heap} {L : List Heap} {b q l k at_ : Nat} {bs : List UInt8} {x : UInt8} {K : Value → Heap → Prop} {Kp : PK} (hO : Own G h (rdr b (some ⟨q, 0, none⟩) l k at_ (0, 0) :: L)) (hr : Rdl L eU8 (some ⟨q, 0, none⟩) l bs) (hk : l ≤ k) (hsm : k ≤ 4294967296) (hx : bs[at_]? = some x)
    (hK : ∀ h', Own G h' (rdr b (some ⟨q, 0, none⟩) l k (at_ + 1) (0, 0) :: L) → K (.int .i64 x.toNat) h') : CallF Tryz.prog G 182 #[.pointer (some ⟨b, 0, none⟩)] K Kp h := by
  refine S182_ok ?_
  unfold S182
  have hl := (hr.cons (rdr b (some ⟨q, 0, none⟩) l k at_ (0, 0))).len hO
  have hat := (List.getElem?_eq_some_iff.1 hx).1
  refine octNumber (n := 1) hO hr hk hsm (by omega) (by omega) fun h hO => ?_
  have e : (bs.drop at_).take 1 = [x] := by
    rw [List.take_one]; simp [hx]
  rw [e]
  refine ⟨_, rfl, ?_⟩
  have := or8 (v := 0) (b := x) (by omega) (by omega)
  have hb : x.toNat < 256 := x.toNat_lt
  rw [show [x].foldl numS 0 = (x.toNat : Int) by simp only [List.foldl_cons, List.foldl_nil, numS]; rw [this]; omega, wrap64n _ (by omega)]
  exact hK _ hO
theorem octU16 {G h : Heap} {L : List Heap} {b q l k at_ : Nat} {bs : List UInt8} {x y : UInt8} {K : Value → Heap → Prop} {Kp : PK} (hO : Own G h (rdr b (some ⟨q, 0, none⟩) l k at_ (0, 0) :: L)) (hr : Rdl L eU8 (some ⟨q, 0, none⟩) l bs) (hk : l ≤ k) (hsm : k ≤ 4294967296) (hx : bs[at_]? = some x) (hy : bs[at_ + 1]? = some y)
    (hK : ∀ h', Own G h' (rdr b (some ⟨q, 0, none⟩) l k (at_ + 2) (0, 0) :: L) → K (.int .i64 ((x.toNat * 256 + y.toNat : Nat))) h') : CallF Tryz.prog G 155 #[.pointer (some ⟨b, 0, none⟩)] K Kp h := by
  refine S155_ok ?_
  unfold S155
  have hl := (hr.cons (rdr b (some ⟨q, 0, none⟩) l k at_ (0, 0))).len hO
  have hat := (List.getElem?_eq_some_iff.1 hy).1
  refine octNumber (n := 2) hO hr hk hsm (by omega) (by omega) fun h hO => ?_
  have e : (bs.drop at_).take 2 = [x, y] := by
    rw [List.take_add_one, List.take_one]; simp [hx, hy]
  rw [e]
  refine ⟨_, rfl, ?_⟩
  have h1 := or8 (v := 0) (b := x) (by omega) (by omega)
  have hb : x.toNat < 256 := x.toNat_lt
  have hb2 : y.toNat < 256 := y.toNat_lt
  have h2 := or8 (v := (x.toNat : Int)) (b := y) (by omega) (by omega)
  rw [show [x, y].foldl numS 0 = ((x.toNat * 256 + y.toNat : Nat) : Int) by
    simp only [List.foldl_cons, List.foldl_nil, numS]; rw [h1, show (0 : Int) * 256 + (x.toNat : Int) = (x.toNat : Int) by omega, h2]; omega, wrap64n _ (by omega)]
  exact hK _ hO
theorem octAt {G h : Heap} {L : List Heap} {b q l k at_ : Nat} {z : Nat × Nat} {K : Value → Heap → Prop} {Kp : PK} (hO : Own G h (rdr b (some ⟨q, 0, none⟩) l k at_ z :: L)) (hK : K (.int .i64 at_) h) : CallF Tryz.prog G 183 #[.pointer (some ⟨b, 0, none⟩)] K Kp h := by
  refine S183_ok ?_
  unfold S183 rdr at *
  exact NN.go (LdI.go hO (by with_unfolding_all rfl) hK)
theorem octErr {G h : Heap} {L : List Heap} {b q l k at_ : Nat} {z : Nat × Nat} {K : Value → Heap → Prop} {Kp : PK} (hO : Own G h (rdr b (some ⟨q, 0, none⟩) l k at_ z :: L)) (hK : K .nilIface h) : CallF Tryz.prog G 157 #[.pointer (some ⟨b, 0, none⟩)] K Kp h := by
  refine S157_ok ?_
  unfold S157 rdr at *
  exact NN.go (LdV.go hO (by with_unfolding_all rfl) hK)
end Go.Sl
set_option maxRecDepth 100000
namespace Go.Sl
open Go Go.Proofs
def DiskP (p : Option Addr) (bs : List UInt8) (n : Nat) (c : Heap) : Prop :=
  ∃ b q l k pc, p = some ⟨b, 0, none⟩ ∧ Sli eU8 q l k bs pc ∧ JoinOf c [single b (.cells #[.slice q l k, .int .i64 n] 98 (0, 0)), pc]
theorem diskNew {G h : Heap} {L : List Heap} {K : Value → Heap → Prop} {Kp : PK} (hO : Own G h L)
    (hK : ∀ h' p c, DiskP p [] 0 c → Own G h' (c :: L) → K (.pointer p) h') : CallF Tryz.prog G 48 #[] K Kp h := by
  refine S48_ok ?_
  unfold S48
  refine newK.go hO ?_
  intro r h hO
  have hO := hO.addEmp
  obtain ⟨hj, hO⟩ := Own.closeJ (cs := [_, emp]) hO
  exact hK _ _ _ ⟨_, _, _, _, _, rfl, .no, hj⟩ hO
theorem diskSize {G h : Heap} {L R : List Heap} {p : Option Addr} {bs : List UInt8} {n : Nat} {c : Heap} {K : Value → Heap → Prop} {Kp : PK} (hO : Own G h L) [t : Take L c R] (hd : DiskP p bs n c)
    (hK : K (.int .i64 bs.length) h) : CallF Tryz.prog G 51 #[.pointer p] K Kp h := by
  refine S51_ok ?_
  obtain ⟨b, q, l, k, pc, rfl, hs, hj⟩ := hd
  have hO : Own G h (_ :: _ :: _) := (hO.perm t.perm).openJ hj
  unfold S51
  refine NN.go (LdSl.g hO ?_)
  rw [hs.len]; exact hK
theorem diskSynced {G h : Heap} {L R : List Heap} {p : Option Addr} {bs : List UInt8} {n : Nat} {c : Heap} {K : Value → Heap → Prop} {Kp : PK} (hO : Own G h L) [t : Take L c R] (hd : DiskP p bs n c)
    (hK : K (.int .i64 n) h) : CallF Tryz.prog G 144 #[.pointer p] K Kp h := by
  refine S144_ok ?_
  obtain ⟨b, q, l, k, pc, rfl, hs, hj⟩ := hd
  have hO : Own G h (_ :: _ :: _) := (hO.perm t.perm).openJ hj
  unfold S144
  exact NN.go (LdI.go hO (by with_unfolding_all rfl) hK)
theorem diskBytes {G h : Heap} {L R : List Heap} {p : Option Addr} {bs : List UInt8} {n : Nat} {c : Heap} {K : Value → Heap → Prop} {Kp : PK} (hO : Own G h L) [t : Take L c R] (hd : DiskP p bs n c) (hsm : bs.length ≤ 4294967296)
    (hK : ∀ h' b pc, Sli eU8 (some ⟨b, 0, none⟩) bs.length bs.length bs pc → Own G h' (pc :: L) → K (.slice (some ⟨b, 0, none⟩) bs.length bs.length) h') : CallF Tryz.prog G 15 #[.pointer p] K Kp h := by
  refine S15_ok ?_
  obtain ⟨b, q, l, k, pc, rfl, hs, hj⟩ := hd
  have hOo : Own G h (_ :: _ :: _) := (hO.perm t.perm).openJ hj
  have hl := hs.len
  unfold S15
  refine NN.go (LdSl.g hOo ?_)
  refine make_go tU8 hO (by omega) (by omega) (by omega) fun h bb pb hsb hO => ?_
  refine ⟨_, _, _, rfl, ?_⟩
  rw [Int.toNat_natCast] at hsb ⊢
  have hOo : Own G h (pb :: _ :: _ :: _) := (hO.perm (t.perm.cons pb)).open2 hj
  refine NN.go (LdSl.g hOo ?_)
  refine copy_go tU8 hO (.refl _) hsb ((hs.rdl (L := _ :: _ :: R) (by simp)) G h hOo.tail) 0 (by omega) (fun h pc' hs' hO => ?_) (by simp [Addr.add]) (by omega)
  refine ⟨_, rfl, ?_⟩
  have e : List.take 0 (List.replicate l eU8.z) ++ bs ++ List.drop (0 + l) (List.replicate l eU8.z) = bs := by simp
  rw [e, hl] at hs'
  rw [hl]
  exact hK _ _ _ hs' hO
theorem diskAppend {G h : Heap} {L R : List Heap} {p p2 : Option Addr} {l2 c2 : Nat} {bs ys : List UInt8} {n : Nat} {c : Heap} {K : Value → Heap → Prop} {Kp : PK} (hO : Own G h L) [t : Take L c R] (hd : DiskP p bs n c) (hr : Rdl R eU8 p2 l2 ys) (hsm : bs.length + ys.length ≤ 262144)
    (hK : ∀ h' c', DiskP p (bs ++ ys) n c' → Own G h' (c' :: R) → K (.int .i64 0) h') : CallF Tryz.prog G 102 #[.pointer p, .slice p2 l2 c2] K Kp h := by
  refine S102_ok ?_
  obtain ⟨b, q, l, k, pc, rfl, hs, hj⟩ := hd
  have hO : Own G h (_ :: _ :: _) := (hO.perm t.perm).openJ hj
  have hl := hs.len
  have hl2 := ((hr.cons _).cons _).len hO
  unfold S102
  refine NN.go (LdSl.go hO (by with_unfolding_all rfl) (Rng.go (by omega) (If.dec (fun _ => by omega) fun _ => ?_)))
  refine NN.go (LdSl.g hO ?_)
  refine append_go tU8 tU8.ud hO (List.Perm.swap _ _ _) hs ((hr.cons _).cons _ G h hO) (by omega) fun h p' c' pc' hs hO => ?_
  refine ⟨_, _, _, rfl, NN.go (st1.g hO ?_)⟩
  intro h hO
  have hO := hO.perm (List.Perm.swap _ _ _)
  obtain ⟨hj, hO⟩ := Own.closeJ (cs := [_, _]) hO
  exact hK _ _ ⟨_, _, _, _, _, rfl, hs, hj⟩ hO
theorem diskSync {G h : Heap} {L R : List Heap} {p : Option Addr} {bs : List UInt8} {n : Nat} {c : Heap} {K : Value → Heap → Prop} {Kp : PK} (hO : Own G h L) [t : Take L c R] (hd : DiskP p bs n c) (hsm : bs.length ≤ 262144) (hn : n ≤ bs.length)
    (hK : ∀ h' c', DiskP p bs bs.length c' → Own G h' (c' :: R) → K (.int .i64 ((bs.length : Int) - n)) h') : CallF Tryz.prog G 105 #[.pointer p] K Kp h := by
  refine S105_ok ?_
  obtain ⟨b, q, l, k, pc, rfl, hs, hj⟩ := hd
  have hO : Own G h (_ :: _ :: _) := (hO.perm t.perm).openJ hj
  have hl := hs.len
  unfold S105
  refine NN.go (LdSl.go hO (by with_unfolding_all rfl) (NN.go (LdI.go hO (by with_unfolding_all rfl) (Rng.go (by omega) ?_))))
  refine NN.go (LdSl.go hO (by with_unfolding_all rfl) (NN.go (st1.g hO ?_)))
  intro h hO
  obtain ⟨hj, hO⟩ := Own.closeJ (cs := [_, _]) hO
  subst hl
  exact hK _ _ ⟨_, _, _, _, _, rfl, hs, hj⟩ hO
end Go.Sl
set_option maxRecDepth 100000
namespace Go.Sl
open Go Go.Proofs
/-- A slice that can be read in its piece. -/
def Rs {α : Type} (e : En α) (p : Option Addr) (l : Nat) (xs : List α) (pc : Heap) : Prop := ∀ L, pc ∈ L → Rdl L e p l xs
theorem Sli.rs {α : Type} {e : En α} {p : Option Addr} {l c : Nat} {xs : List α} {pc : Heap} (h : Sli e p l c xs pc) : Rs e p l xs pc := fun _ hc => h.rdl hc
theorem Rs.part {α : Type} {e : En α} (ok : e.Ok) {b o l : Nat} {xs : List α} {pc : Heap} (h : Rs e (some ⟨b, o, none⟩) l xs pc) (i n : Nat) (hl : i + n ≤ l) : Rs e (some ⟨b, o + i * e.m, none⟩) n ((xs.drop i).take n) pc :=
  fun L hc => (h L hc).part ok i n hl
theorem subA_lt {b o lo cap : Nat} (h : lo < cap) : subA (some ⟨b, o, none⟩) lo cap 1 = some ⟨b, o + lo, none⟩ := by
  unfold subA; rw [if_neg (by omega)]; simp [add_mk]

theorem eq_nil_in {P : Program} {te : TypeId} {ms : Array (String × TypeId)} (hu : P.underlying te = some (.interface ms)) {t : TypeId} {v : Value} (d : Nat) : pr P (Op.equalIn (d + 1) te .nilIface (.iface t v)) = some false := by
  simp only [Op.equalIn, pr_bind, pr_underlying hu, Option.bind_some, pr_pure]
theorem eq_nil {P : Program} {te : TypeId} {ms : Array (String × TypeId)} (hu : P.underlying te = some (.interface ms)) {t : TypeId} {v : Value} : pr P (Op.equal te .nilIface (.iface t v)) = some false := eq_nil_in hu 9999
theorem errIsNil {G h : Heap} {t : TypeId} {v : Value} {K : Value → Heap → Prop} {Kp : PK} (hK : K (.bool false) h) : CallF Tryz.prog G 156 #[.nilIface, .iface t v] K Kp h := by
  refine S156_ok ?_
  unfold S156
  refine Rq.go (.inl rfl) (If.t rfl ?_)
  unfold S156_k1
  refine If.t rfl ?_
  unfold slV slN
  rw [bind_assoc']
  refine sl_bindPr (v := ()) rfl ?_
  refine sl_bindPr (v := .bool false) ?_ ?_
  · show pr Tryz.prog (do pure (Value.bool (← Op.equal 78 .nilIface (.iface t v)))) = _
    rw [pr_bind]
    have : pr Tryz.prog (Op.equal 78 .nilIface (.iface t v)) = some false := by
      exact eq_nil R78_ok.ud
    rw [this]; rfl
  · exact ⟨_, rfl, hK⟩

def put16 (n : Nat) : List UInt8 := [byt (Int.fdiv (n : Int) (2 ^ 8)), byt (n : Int)]
def head (n : Nat) : List UInt8 := put16 n ++ put16 (65535 - n)
def frame (pl : List UInt8) : List UInt8 := head pl.length ++ pl ++ sum4 (crc (head pl.length ++ pl))
theorem byt_mod (n : Nat) : (byt (n : Int)).toNat = n % 256 := by
  have h := byt_nat (n : Int)
  have h2 : IntKind.u8.wrap (n : Int) = (n : Int) % 256 := by simp [IntKind.wrap, IntKind.signed, IntKind.bits]
  rw [h2] at h; omega
theorem put16_val (n : Nat) (h : n < 65536) : (byt (Int.fdiv (n : Int) (2 ^ 8))).toNat * 256 + (byt (n : Int)).toNat = n := by
  have h1 : Int.fdiv (n : Int) (2 ^ 8) = ((n / 256 : Nat) : Int) := by
    rw [Int.fdiv_eq_ediv_of_nonneg _ (by decide)]; omega
  rw [h1, byt_mod, byt_mod]; omega
theorem wrapU64 (n : Nat) (h : n < 65536) : IntKind.u64.wrap (n : Int) = n := by
  have : IntKind.u64.wrap (n : Int) = (n : Int) % 18446744073709551616 := by simp [IntKind.wrap, IntKind.signed, IntKind.bits]
  rw [this]; omega
theorem frame_len (pl : List UInt8) : (frame pl).length = pl.length + 8 := by simp [frame, head, put16, sum4]

theorem walFrame {G h : Heap} {L : List Heap} {p : Option Addr} {l c : Nat} {pl : List UInt8} {K : Value → Heap → Prop} {Kp : PK} (hG : Gl G) (hO : Own G h L) (hr : Rdl L eU8 p l pl) (h1 : 1 ≤ pl.length) (h2 : pl.length ≤ 64)
    (hK : ∀ h' b pc, Sli eU8 (some ⟨b, 0, none⟩) (pl.length + 8) (pl.length + 8) (frame pl) pc → Own G h' (pc :: L) → K (.tuple #[.slice (some ⟨b, 0, none⟩) (pl.length + 8) (pl.length + 8), .nilIface]) h') : CallF Tryz.prog G 101 #[.slice p l c] K Kp h := by
  have hl := hr.len hO
  subst hl
  refine S101_ok ?_
  unfold S101
  refine If.dec (fun _ => by omega) fun _ => ?_
  unfold S101_k1
  refine If.f (by simp; omega) ?_
  rw [wrapU64 _ (by omega)]
  refine octPut16 hO (Rdl.nil _ _) (by omega) fun h b1 p1 hs1 hO => ?_
  refine ⟨_, _, _, rfl, Rng.go (by omega) ?_⟩
  rw [show (65535 : Int) - (pl.length : Int) = ((65535 - pl.length : Nat) : Int) by omega, wrapU64 _ (by omega)]
  refine octPut16 hO (hs1.rdl (by simp)) (by omega) fun h b2 p2 hs2 hO => ?_
  refine ⟨_, _, _, rfl, ?_⟩
  refine append_go tU8 tU8.ud hO (.refl _) hs2 (((hr.cons _).cons _) G h hO) (by omega) fun h p' c' pc' hs3 hO => ?_
  refine ⟨_, _, _, rfl, ?_⟩
  refine octSeal hG hO (hs3.rdl (by simp)) (by omega) fun h b4 p4 hs4 hO => ?_
  refine ⟨_, _, _, rfl, ?_⟩
  have e : ([] ++ [byt (Int.fdiv (pl.length : Int) (2 ^ 8)), byt (pl.length : Int)] ++ [byt (Int.fdiv ((65535 - pl.length : Nat) : Int) (2 ^ 8)), byt ((65535 - pl.length : Nat) : Int)] ++ pl) = head pl.length ++ pl := by simp [head, put16]
  rw [e] at hs4
  rw [show 0 + 2 + 2 + pl.length + 4 = pl.length + 8 by omega] at hs4 ⊢
  exact hK _ _ _ hs4 hO.drop2.drop2

theorem walRecord {G h : Heap} {L : List Heap} {q l c at_ : Nat} {bs pl pre post : List UInt8} {K : Value → Heap → Prop} {Kp : PK} (hG : Gl G) (hO : Own G h L) (hr : Rdl L eU8 (some ⟨q, 0, none⟩) l bs) (hc : l ≤ c) (hsm : c ≤ 4294967296)
    (hb : bs = pre ++ frame pl ++ post) (hat : at_ = pre.length) (h1 : 1 ≤ pl.length) (h2 : pl.length ≤ 64)
    (hK : ∀ h' b pc, Rs eU8 (some ⟨b, 4, none⟩) pl.length pl pc → Own G h' (pc :: L) → K (.tuple #[.slice (some ⟨b, 4, none⟩) pl.length pl.length, .nilIface]) h') : CallF Tryz.prog G 125 #[.slice (some ⟨q, 0, none⟩) l c, .int .i64 at_] K Kp h := by
  have hl := hr.len hO
  have hlen : l = at_ + (pl.length + 8) + post.length := by rw [hl, hb, hat]; simp [frame_len]; omega
  refine S125_ok ?_
  unfold S125
  have hmin : minI ((l : Nat) : Int) ((at_ : Int) + 4) = (at_ : Int) + 4 := by unfold minI; split <;> omega
  rw [hmin]
  refine Rng.go (by omega) (Rq.go (by omega) (Rq.go (by omega) ?_))
  rw [Int.toNat_natCast, subA_lt (by omega), show ((at_ : Int) + 4).toNat - at_ = 4 by omega]
  have hd : (bs.drop at_).take 4 = head pl.length := by
    rw [hb, hat, List.append_assoc, List.drop_left]
    simp [frame, head, put16]
  have hr4 := hr.part eU8_ok at_ 4 (by omega)
  rw [hd, show (0 : Nat) + at_ * eU8.m = 0 + at_ by simp [eU8]] at hr4
  refine octNewReader hO hr4 (by omega) fun h b qq pc hs hO => ?_
  refine ⟨_, rfl, ?_⟩
  have hrd : Rdl (pc :: L) eU8 (some ⟨qq, 0, none⟩) 4 (head pl.length) := hs.rdl (by simp)
  refine octU16 (x := byt (Int.fdiv (pl.length : Int) (2 ^ 8))) (y := byt (pl.length : Int)) hO hrd (by omega) (by omega) (by simp [head, put16]) (by simp [head, put16]) fun h hO => ?_
  refine ⟨_, rfl, ?_⟩
  refine octU16 (x := byt (Int.fdiv ((65535 - pl.length : Nat) : Int) (2 ^ 8))) (y := byt ((65535 - pl.length : Nat) : Int)) hO hrd (by omega) (by omega) (by simp [head, put16]) (by simp [head, put16]) fun h hO => ?_
  refine ⟨_, rfl, ?_⟩
  rw [put16_val _ (by omega), put16_val _ (by omega)]
  refine octErr hO ⟨_, rfl, errIsNil ⟨_, rfl, If.f rfl (Rng.go (by omega) ?_)⟩⟩
  refine If.f (by simp; omega) (If.dec (fun _ => by omega) fun _ => ?_)
  unfold S125_k1
  refine If.f (by simp; omega) (Rng.go (by omega) (Rng.go (by omega) (If.dec (fun _ => by omega) fun _ => Rng.go (by omega) (Rng.go (by omega) (Rq.go (by omega) (Rq.go (by omega) ?_))))))
  rw [Int.toNat_natCast, subA_lt (by omega), show ((at_ : Int) + (pl.length : Int) + 8).toNat - at_ = pl.length + 8 by omega]
  have hd2 : (bs.drop at_).take (pl.length + 8) = frame pl := by
    rw [hb, hat, List.append_assoc, List.drop_left, ← frame_len pl, List.take_left]
  have hrf := hr.part eU8_ok at_ (pl.length + 8) (by omega)
  rw [hd2, show (0 : Nat) + at_ * eU8.m = 0 + at_ by simp [eU8]] at hrf
  have hO := hO.drop1.drop1
  refine octOpen (bs := head pl.length ++ pl) hG hO hrf (by omega) (by omega) fun h b2 p2 hs2 hO => ?_
  refine ⟨_, _, _, _, rfl, errIsNil ⟨_, rfl, If.f rfl ?_⟩⟩
  have hhl : (head pl.length).length = 4 := by simp [head, put16]
  refine Rq.go (by simp only [List.length_append, hhl]; omega) ?_
  rw [subA_lt (by simp only [List.length_append, hhl]; omega)]
  simp only [List.length_append, hhl, Nat.zero_add, Nat.add_sub_cancel_left]
  refine hK _ _ _ ?_ hO
  have := hs2.rs.part eU8_ok 4 pl.length (by simp only [List.length_append, hhl]; omega)
  rw [show (head pl.length ++ pl).drop 4 = pl by rw [← hhl, List.drop_left], List.take_length] at this
  simpa [eU8] using this
end Go.Sl
set_option maxRecDepth 100000
namespace Go.Sl
open Go Go.Proofs
def eSl : En (Option Addr × Nat × Nat) := ⟨49, 1, fun x => [.slice x.1 x.2.1 x.2.2], (none, 0, 0)⟩
theorem eSl_ok : eSl.Ok := ⟨fun _ => rfl, by decide, fun x v hv => by simp [eSl] at hv; subst hv; rfl⟩
theorem tSl : SlT Tryz.prog 142 eSl := ⟨eSl_ok, rfl, ⟨_, rfl, rfl, by decide, _, rfl, rfl⟩⟩
/-- Lists of bytes, each in a piece. -/
structure Pls (hs : List (Option Addr × Nat × Nat)) (pls : List (List UInt8)) (pcs : List Heap) : Prop where
  l1 : hs.length = pls.length
  l2 : pcs.length = pls.length
  rd : ∀ (i : Nat) (hd : Option Addr × Nat × Nat) (pl : List UInt8) (pc : Heap), hs[i]? = some hd → pls[i]? = some pl → pcs[i]? = some pc → Rs eU8 hd.1 hd.2.1 pl pc ∧ hd.2.1 ≤ hd.2.2
theorem Pls.nil : Pls [] [] [] := ⟨rfl, rfl, fun i hd pl pc h => by simp at h⟩
theorem Pls.snoc {hs : List (Option Addr × Nat × Nat)} {pls : List (List UInt8)} {pcs : List Heap} (h : Pls hs pls pcs) {p : Option Addr} {l c : Nat} {pl : List UInt8} {pc : Heap} (hr : Rs eU8 p l pl pc) (hc : l ≤ c) : Pls (hs ++ [(p, l, c)]) (pls ++ [pl]) (pcs ++ [pc]) := by
  obtain ⟨h1, h2, h3⟩ := h
  refine ⟨by simp [h1], by simp [h2], fun i hd pl' pc' e1 e2 e3 => ?_⟩
  by_cases hi : i < pls.length
  · rw [List.getElem?_append_left (by omega)] at e1 e2 e3
    exact h3 i hd pl' pc' e1 e2 e3
  · by_cases hi2 : i = pls.length
    · subst hi2
      rw [List.getElem?_append_right (by omega)] at e1 e2 e3
      simp only [h1, h2, Nat.sub_self, List.getElem?_cons_zero, Option.some.injEq] at e1 e2 e3
      subst e1; subst e2; subst e3
      exact ⟨hr, hc⟩
    · rw [List.getElem?_eq_none (by simp; omega)] at e2; cases e2
def frames (pls : List (List UInt8)) : List UInt8 := pls.flatMap frame
theorem walScan {G h : Heap} {L : List Heap} {q l c : Nat} {pls : List (List UInt8)} {K : Value → Heap → Prop} {Kp : PK} (hG : Gl G) (hO : Own G h L) (hr : Rdl L eU8 (some ⟨q, 0, none⟩) l (frames pls)) (hc : l ≤ c) (hsm : c ≤ 2147483648) (hpl : ∀ pl ∈ pls, 1 ≤ pl.length ∧ pl.length ≤ 64)
    (hK : ∀ h' p k c hs ps pcs, Sli eSl p k c hs ps → Pls hs pls pcs → Own G h' (ps :: (pcs ++ L)) → K (.tuple #[.slice p k c, .int .i64 l, .nilIface]) h') : CallF Tryz.prog G 84 #[.slice (some ⟨q, 0, none⟩) l c] K Kp h := by
  have hl := hr.len hO
  refine S84_ok ?_
  unfold S84
  refine LoopS.go (fun vs h' => ∃ n p k c hs ps pcs, n ≤ pls.length ∧ vs = [.slice p k c, .nilIface, .int .i64 ((frames (pls.take n)).length : Nat)] ∧ Sli eSl p k c hs ps ∧ Pls hs (pls.take n) pcs ∧ Own G h' (ps :: (pcs ++ L))) (fun vs _ => match vs with | [_, _, .int _ n] => (l - n).toNat | _ => 0) ⟨0, none, 0, 0, [], emp, [], by omega, by simp [frames], .no, by simpa using Pls.nil, ?_⟩ ?_
  · exact (hO.addEmp0)
  rintro jv vs h' ⟨n, p, k, c1, hs, ps, pcs, hn, rfl, hsl, hpls, hO⟩
  unfold S84_l4
  have hsplit : frames pls = frames (pls.take n) ++ frames (pls.drop n) := by unfold frames; rw [← List.flatMap_append, List.take_append_drop]
  have hkl : k = n := by rw [hsl.len, hpls.l1]; simp; omega
  have hfl : ∀ ms : List (List UInt8), 9 * ms.length ≤ (frames ms).length ∨ ∃ m ∈ ms, m.length < 1 := by
    intro ms
    induction ms with
    | nil => simp
    | cons m ms ih =>
      by_cases hm : m.length < 1
      · exact .inr ⟨m, by simp, hm⟩
      · rcases ih with ih | ⟨x, hx, hx2⟩
        · refine .inl ?_
          simp only [frames, List.flatMap_cons, List.length_append, frame_len, List.length_cons] at ih ⊢
          omega
        · exact .inr ⟨x, by simp [hx], hx2⟩
  have hnl : 9 * pls.length ≤ (frames pls).length := by
    rcases hfl pls with h | ⟨m, hm, h⟩
    · exact h
    · have := hpl m hm; omega
  refine ⟨_, _, _, _, _, rfl, If.dec (fun hlt => ?_) (fun hlt => ?_)⟩
  · have hnp : n < pls.length := by
      rcases Nat.lt_or_ge n pls.length with h | h
      · exact h
      · exfalso
        rw [List.take_of_length_le h] at hlt
        omega
    have hdrop : pls.drop n = pls[n] :: pls.drop (n + 1) := List.drop_eq_getElem_cons hnp
    have hmem := hpl pls[n] (List.getElem_mem hnp)
    have htk : pls.take (n + 1) = pls.take n ++ [pls[n]] := by rw [List.take_add_one, List.getElem?_eq_getElem hnp]; rfl
    have hftk : frames (pls.take (n + 1)) = frames (pls.take n) ++ frame pls[n] := by rw [htk]; unfold frames; rw [List.flatMap_append]; simp
    have hle : (frames (pls.take (n + 1))).length ≤ l := by
      rw [hl, show frames pls = frames (pls.take (n + 1)) ++ frames (pls.drop (n + 1)) by unfold frames; rw [← List.flatMap_append, List.take_append_drop]]
      simp
    rw [hftk, List.length_append, frame_len] at hle
    refine walRecord (pl := pls[n]) (pre := frames (pls.take n)) (post := frames (pls.drop (n + 1))) hG hO (hr.sub (by
      refine List.Sublist.cons _ ?_
      exact List.sublist_append_right _ _)) hc (by omega) (by rw [hsplit, hdrop]; simp only [frames, List.flatMap_cons, List.append_assoc]) rfl hmem.1 hmem.2 fun h b pc hrs hO => ?_
    refine ⟨_, _, _, _, rfl, Rq.go (.inl rfl) (If.f rfl (newK.go hO ?_))⟩
    intro r h hO
    refine append1 tSl hO hsl (y := (some ⟨b, 4, none⟩, pls[n].length, pls[n].length)) rfl (by omega) fun h p' c' ps' hsl hO => ?_
    refine ⟨_, _, _, rfl, Rng.go (by omega) (Rng.go (by omega) ⟨⟨n + 1, _, _, _, _, _, pcs ++ [pc], by omega, ?_, hsl, ?_, ?_⟩, ?_⟩)⟩
    · rw [hftk, List.length_append, frame_len]; simp only [List.cons.injEq, Value.int.injEq, and_true, true_and]; omega
    · rw [htk]; exact hpls.snoc hrs (Nat.le_refl _)
    · refine hO.perm ?_
      refine List.Perm.cons _ ?_
      rw [List.append_assoc]; exact List.perm_middle
    · simp only; omega
  · unfold S84_k1
    have hnp : n = pls.length := by
      rcases Nat.lt_or_ge n pls.length with h | h
      · exfalso
        have hdrop : pls.drop n = pls[n] :: pls.drop (n + 1) := List.drop_eq_getElem_cons h
        have : (frames pls).length = (frames (pls.take n)).length + ((pls[n].length + 8) + (frames (pls.drop (n + 1))).length) := by
          rw [hsplit, hdrop, List.length_append]; simp only [frames, List.flatMap_cons, List.length_append, frame_len]
        omega
      · omega
    subst hnp
    rw [List.take_length] at hpls ⊢
    rw [← hl]
    exact hK _ _ _ _ _ _ _ hsl hpls hO
end Go.Sl
set_option maxRecDepth 100000
namespace Go.Sl
open Go Go.Proofs
def eI : En Int := ⟨3, 1, fun x => [.int .i64 x], 0⟩
theorem eI_ok : eI.Ok := ⟨fun _ => rfl, by decide, fun x v hv => by simp [eI] at hv; subst hv; rfl⟩
theorem tI : SlT Tryz.prog 23 eI := ⟨eI_ok, rfl, ⟨_, rfl, rfl, by decide, _, rfl, rfl⟩⟩
theorem frames_app (a b : List (List UInt8)) : frames (a ++ b) = frames a ++ frames b := by simp [frames]
theorem frames_one (a : List UInt8) : frames [a] = frame a := by simp [frames]
def endsL (pls : List (List UInt8)) : List Int := (List.range pls.length).map fun i => ((frames (pls.take (i + 1))).length : Int)
theorem endsL_snoc (pls : List (List UInt8)) (pl : List UInt8) : endsL (pls ++ [pl]) = endsL pls ++ [((frames pls).length : Int) + pl.length + 8] := by
  unfold endsL
  rw [List.length_append, List.length_singleton, List.range_succ, List.map_append]
  congr 1
  · apply List.map_congr_left
    intro i hi
    rw [List.mem_range] at hi
    rw [List.take_append_of_le_length (by omega)]
  · simp only [List.map_cons, List.map_nil]
    rw [List.take_of_length_le (by simp), frames_app, frames_one, List.length_append, frame_len]
    simp only [List.cons.injEq, and_true]; omega
theorem endsL_len (pls : List (List UInt8)) : (endsL pls).length = pls.length := by simp [endsL]
theorem endsL_last {pls : List (List UInt8)} (h : 0 < pls.length) : (endsL pls)[pls.length - 1]? = some ((frames pls).length : Int) := by
  unfold endsL
  rw [List.getElem?_map, List.getElem?_range (by omega)]
  simp only [Option.map_some]
  rw [List.take_of_length_le (by omega)]
/-- The log beside its disk. -/
def LogQ (p d : Option Addr) (pls : List (List UInt8)) (c : Heap) : Prop :=
  ∃ b q l k hs ps q2 l2 k2 pe pcs, p = some ⟨b, 0, none⟩ ∧ Sli eSl q l k hs ps ∧ Pls hs pls pcs ∧ Sli eI q2 l2 k2 (endsL pls) pe ∧
    JoinOf c (single b (.cells #[.pointer d, .slice q l k, .slice q2 l2 k2] 171 (0, 0)) :: ps :: pe :: pcs)
def LogP (p d : Option Addr) (pls : List (List UInt8)) (n : Nat) (c : Heap) : Prop :=
  ∃ cq cd, LogQ p d pls cq ∧ DiskP d (frames pls) n cd ∧ JoinOf c [cq, cd]

/-- The end, where the log's pieces lie open. -/
theorem walEnd {G h : Heap} {L : List Heap} {b : Nat} {o : Obj} {u : Obj → List Heap} {d q q2 : Option Addr} {l k l2 k2 : Nat} {pls : List (List UInt8)} {pe : Heap} {z : Nat × Nat} {K : Value → Heap → Prop} {Kp : PK} (hO : Own G h L) [f : Find L b o u] (ho : o = .cells #[.pointer d, .slice q l k, .slice q2 l2 k2] 171 z) (hs : Sli eI q2 l2 k2 (endsL pls) pe) (hm : pe ∈ L) (hsm : pls.length ≤ 4294967296)
    (hK : K (.int .i64 (frames pls).length) h) : CallF Tryz.prog G 91 #[.pointer (some ⟨b, 0, none⟩)] K Kp h := by
  refine S91_ok ?_
  subst ho
  have hl := hs.len
  rw [endsL_len] at hl
  unfold S91
  refine NN.go (LdSl.go hO (by with_unfolding_all rfl) (If.mk (fun e => ?_) (fun e => ?_)))
  · have : pls = [] := List.length_eq_zero_iff.1 (by simp at e; omega)
    subst this; exact hK
  · have hpos : 0 < pls.length := by simp at e; omega
    refine NN.go (LdSl.go hO (by with_unfolding_all rfl) (NN.go (LdSl.go hO (by with_unfolding_all rfl) (Rng.go (by omega) (Rq.go (by omega) ?_)))))
    obtain ⟨x, hx, hn⟩ := (hs.rdl hm).at eI_ok hO (i := (l2 : Int) - 1) (by omega) (by omega)
    refine hn _ fun a _ hc => ?_
    refine LdI.i (hc 0 _ rfl) ?_
    rw [show ((l2 : Int) - 1).toNat = pls.length - 1 by omega, endsL_last hpos] at hx
    cases hx
    exact hK

theorem walHold {G h : Heap} {L R : List Heap} {p d pa : Option Addr} {l c : Nat} {pls : List (List UInt8)} {pl : List UInt8} {cq pc : Heap} {K : Value → Heap → Prop} {Kp : PK} (hO : Own G h L) (t : (cq :: pc :: R).Perm L) (hq : LogQ p d pls cq) (hr : Rs eU8 pa l pl pc) (hc : l ≤ c) (hl : l = pl.length) (h64 : pl.length ≤ 64) (hsm : (frames pls).length ≤ 1000000) (hsm2 : pls.length ≤ 1000000)
    (hK : ∀ h' cq', LogQ p d (pls ++ [pl]) cq' → Own G h' (cq' :: R) → K (.tuple #[]) h') : CallF Tryz.prog G 85 #[.pointer p, .slice pa l c] K Kp h := by
  refine S85_ok ?_
  obtain ⟨b, q, l1, k, hs, ps, q2, l2, k2, pe, pcs, rfl, hs1, hpls, hs2, hj⟩ := hq
  have hO : Own G h (_ :: _ :: _ :: _) := (hO.perm t).openJ hj
  have e1 := hs1.len
  have e2 := hs2.len
  rw [endsL_len] at e2
  have e3 := hpls.l1
  unfold S85
  refine NN.go (LdSl.go hO (by with_unfolding_all rfl) (newK.go hO ?_))
  intro r h hO
  refine append1 tSl hO hs1 (y := (pa, l, c)) rfl (by omega) fun h q' c' ps' hs1 hO => ?_
  refine ⟨_, _, _, rfl, NN.go (st1.g hO ?_)⟩
  intro h hO
  dsimp only [ad, List.set] at hO
  refine NN.go (LdSl.g hO ?_)
  refine walEnd hO rfl hs2 (by simp) (by omega) ?_
  refine ⟨_, rfl, cell_go hO (by with_unfolding_all rfl) (Rng.go (by omega) (Rng.go (by omega) (newK.go hO ?_)))⟩
  intro r2 h hO
  refine cell_g hO ?_
  refine append1 tI hO hs2 (y := ((frames pls).length : Int) + l + 8) rfl (by omega) fun h q2' c2' pe' hs2 hO => ?_
  refine ⟨_, _, _, rfl, NN.go (st1.g hO ?_)⟩
  intro h hO
  dsimp only [ad, List.set] at hO
  have hO : Own G h ((single b (.cells #[.pointer d, .slice q' (l1 + 1) c', .slice q2' (l2 + 1) c2'] 171 (0, 0)) :: ps' :: pe' :: (pcs ++ [pc])) ++ R) := hO.perm (by (refine perm_cnt fun a => ?_; simp only [cnt_app, List.append_eq, cnt_cons, cnt_nil]; omega))
  obtain ⟨hj, hO⟩ := Own.closeJ hO
  refine hK _ _ ⟨_, _, _, _, _, _, _, _, _, _, _, rfl, hs1, hpls.snoc hr hc, ?_, hj⟩ hO
  rw [endsL_snoc, ← hl]; exact hs2
end Go.Sl
set_option maxRecDepth 100000
namespace Go.Sl
open Go Go.Proofs
theorem errAsNil {G h : Heap} {v : Value} {K : Value → Heap → Prop} {Kp : PK} (hK : K (.bool false) h) : CallF Tryz.prog G 86 #[.nilIface, v] K Kp h := by
  refine S86_ok ?_
  unfold S86
  exact Rq.go (.inl rfl) (If.t rfl hK)
theorem frames_take_le (pls : List (List UInt8)) (i : Nat) : (frames (pls.take i)).length ≤ (frames pls).length := by
  have : frames pls = frames (pls.take i) ++ frames (pls.drop i) := by rw [← frames_app, List.take_append_drop]
  rw [this]; simp
theorem frames_ge {pls : List (List UInt8)} : 8 * pls.length ≤ (frames pls).length := by
  induction pls with
  | nil => simp
  | cons m ms ih =>
    simp only [frames, List.flatMap_cons, List.length_append, frame_len, List.length_cons] at ih ⊢
    omega
/-- Opening a disk of whole records. -/
theorem walOpen {G h : Heap} {L R : List Heap} {d : Option Addr} {pls : List (List UInt8)} {n : Nat} {c : Heap} {K : Value → Heap → Prop} {Kp : PK} (hG : Gl G) (hO : Own G h L) [t : Take L c R] (hd : DiskP d (frames pls) n c) (hpl : ∀ pl ∈ pls, 1 ≤ pl.length ∧ pl.length ≤ 64) (hsm : (frames pls).length ≤ 262144)
    (hK : ∀ h' p c', LogP p d pls n c' → Own G h' (c' :: R) → K (.tuple #[.pointer p, .nilIface]) h') : CallF Tryz.prog G 61 #[.pointer d] K Kp h := by
  refine S61_ok ?_
  unfold S61
  have hge := frames_ge (pls := pls)
  refine diskBytes hO hd (by omega) fun h b pb hsb hO => ?_
  refine ⟨_, _, _, rfl, ?_⟩
  refine walScan hG hO (hsb.rdl (by simp)) (by omega) (by omega) hpl fun h p k c1 hs ps pcs hsl hpls hO => ?_
  refine ⟨_, _, _, _, _, rfl, newK.go hO ?_⟩
  intro r h hO
  have e1 := hsl.len
  have e2 := hpls.l1
  have e3 := hpls.l2
  have hq0 : Own G h ((single r (.cells #[.pointer d, .slice none 0 0, .slice none 0 0] 171 (0, 0)) :: emp :: emp :: []) ++ (ps :: (pcs ++ (pb :: L)))) := hO.addEmp.addEmp
  obtain ⟨hj0, hO⟩ := Own.closeJ hq0
  refine LoopS.go (fun vs h' => ∃ (i : Nat) (cq : Heap), i ≤ pls.length ∧ vs = [.int .i64 i] ∧ LogQ (some ⟨r, 0, none⟩) d (pls.take i) cq ∧ Own G h' (cq :: ps :: (pcs.drop i ++ (pb :: L)))) (fun vs _ => match vs with | [.int _ n] => (pls.length - n).toNat | _ => 0) ⟨0, _, by omega, rfl, ⟨r, _, _, _, [], emp, _, _, _, emp, [], rfl, .no, Pls.nil, .no, hj0⟩, by simpa using hO⟩ ?_
  rintro jv vs h ⟨i, cq, hi, rfl, hq, hO⟩
  unfold S61_l4
  refine ⟨_, rfl, If.dec (fun hlt => ?_) (fun hlt => ?_)⟩
  · have hip : i < pls.length := by omega
    refine Rq.go ⟨by omega, hlt⟩ ?_
    obtain ⟨x, hx, hn⟩ := (hsl.rdl (L := cq :: ps :: (pcs.drop i ++ (pb :: L))) (by simp)).at eSl_ok hO (i := (i : Int)) (by omega) hlt
    refine hn _ fun a _ hc => ?_
    obtain ⟨xa, xl, xc⟩ := x
    refine LdSl.i (hc 0 _ rfl) ?_
    have hx' : hs[i]? = some (xa, xl, xc) := by simpa using hx
    obtain ⟨hrs, hcap⟩ := hpls.rd i _ pls[i] pcs[i] hx' (List.getElem?_eq_getElem hip) (List.getElem?_eq_getElem (by omega))
    have hdrop : pcs.drop i = pcs[i] :: pcs.drop (i + 1) := List.drop_eq_getElem_cons (by omega)
    rw [hdrop] at hO
    have hxl : xl = pls[i].length := by
      exact (hrs _ (show pcs[i] ∈ (cq :: ps :: (pcs[i] :: pcs.drop (i + 1) ++ (pb :: L))) from List.mem_cons_of_mem _ (List.mem_cons_of_mem _ (List.mem_append_left _ List.mem_cons_self)))).len hO
    refine walHold hO (pl := pls[i]) (R := ps :: (pcs.drop (i + 1) ++ (pb :: L))) (by (refine perm_cnt fun a => ?_; simp only [cnt_app, List.append_eq, cnt_cons, cnt_nil]; omega)) hq hrs hcap hxl (hpl _ (List.getElem_mem hip)).2 (by have := frames_take_le pls i; omega) (by rw [List.length_take]; omega) fun h cq' hq' hO => ?_
    refine ⟨rfl, Rng.go (by omega) ⟨⟨i + 1, cq', by omega, rfl, ?_, hO⟩, ?_⟩⟩
    · rw [List.take_add_one, List.getElem?_eq_getElem hip]; exact hq'
    · simp only; omega
  · have hip : i = pls.length := by omega
    subst hip
    rw [List.take_length] at hq
    unfold S61_k1
    refine newK.go hO ?_
    intro r2 h hO
    refine errAsNil ⟨_, rfl, If.f rfl ?_⟩
    unfold S61_k2
    have hO2 : Own G h ([cq, c] ++ (single r2 (.cells #[.pointer none] 134 (0, 0)) :: ps :: (pcs.drop pls.length ++ (pb :: R)))) := by
      exact hO.perm (by (refine perm_cnt fun a => ?_; have ht := cnt_perm t.perm a; simp only [cnt_app, List.append_eq, cnt_cons, cnt_nil] at ht ⊢; omega))
    obtain ⟨hj, hO⟩ := Own.closeJ hO2
    refine hK _ _ _ ⟨cq, c, hq, hd, hj⟩ (hO.mem ?_)
    refine List.Sublist.cons_cons _ ?_
    refine List.Sublist.cons _ (List.Sublist.cons _ ?_)
    refine List.Sublist.trans ?_ (List.sublist_append_right _ _)
    exact List.Sublist.cons _ (List.Sublist.refl _)

/-- Appending a record. -/
theorem walAppend {G h : Heap} {L R : List Heap} {p d pa : Option Addr} {l k : Nat} {pls : List (List UInt8)} {pl : List UInt8} {n : Nat} {c : Heap} {K : Value → Heap → Prop} {Kp : PK} (hG : Gl G) (hO : Own G h L) [t : Take L c R] (hq : LogP p d pls n c) (hr : Rdl R eU8 pa l pl) (h1 : 1 ≤ pl.length) (h2 : pl.length ≤ 64) (hsm : (frames pls).length + pl.length + 8 ≤ 262144)
    (hK : ∀ h' c', LogP p d (pls ++ [pl]) n c' → Own G h' (c' :: R) → K .nilIface h') : CallF Tryz.prog G 71 #[.pointer p, .slice pa l k] K Kp h := by
  refine S71_ok ?_
  unfold S71
  have hge := frames_ge (pls := pls)
  obtain ⟨cq, cd, hq, hd, hj⟩ := hq
  have hO : Own G h (c :: R) := hO.perm t.perm
  have hll := (hr.cons c).len hO
  refine walFrame hG hO (hr.cons c) h1 h2 fun h b pf hsf hO => ?_
  refine ⟨_, _, _, _, rfl, Rq.go (.inl rfl) (If.f rfl ?_)⟩
  have hO := hO.open2 hj
  have hq' := hq
  obtain ⟨b2, q, l1, k1, hs, ps, q2, l2, k2, pe, pcs, hp, hs1, hpls, hs2, hj2⟩ := hq'
  have hOo : Own G h (_ :: _ :: _ :: _ :: (pcs ++ (cd :: R))) := hO.open2 hj2
  subst hp
  refine NN.go (LdP.g hOo ?_)
  clear hOo
  refine diskAppend (c := cd) (R := pf :: cq :: R) (t := ⟨by (refine perm_cnt fun a => ?_; simp only [cnt_app, List.append_eq, cnt_cons, cnt_nil]; omega)⟩) hO hd (hsf.rdl (by simp)) (by rw [frame_len]; omega) fun h cd' hd' hO => ?_
  refine ⟨_, rfl, If.f rfl ?_⟩
  refine append_go tU8 tU8.ud (hO.addEmp0) (.refl _) Sli.no ((((hr.cons cq).cons pf).cons cd' |>.cons emp) G h hO.addEmp0) (by omega) fun h p' c' pc' hs3 hO => ?_
  refine ⟨_, _, _, rfl, ?_⟩
  refine walHold hO (cq := cq) (pc := pc') (R := cd' :: pf :: R) (by (refine perm_cnt fun a => ?_; simp only [cnt_app, List.append_eq, cnt_cons, cnt_nil]; omega)) hq hs3.rs hs3.cap (by simp only [Nat.zero_add]; exact hll) h2 (by omega) (by omega) fun h cq' hq' hO => ?_
  refine ⟨rfl, ?_⟩
  obtain ⟨hj, hO⟩ := Own.closeJ (cs := [cq', cd']) hO
  refine hK _ _ ⟨cq', cd', hq', ?_, hj⟩ hO.drop2
  rw [frames_app, frames_one]; exact hd'
end Go.Sl
set_option maxRecDepth 100000
namespace Go.Sl
open Go Go.Proofs
theorem walSynced {G h : Heap} {L R : List Heap} {p d : Option Addr} {pls : List (List UInt8)} {n : Nat} {c : Heap} {K : Value → Heap → Prop} {Kp : PK} (hO : Own G h L) [t : Take L c R] (hq : LogP p d pls n c) (hsm : pls.length ≤ 1000000)
    (hK : ∀ m : Nat, m ≤ pls.length → K (.int .i64 m) h) : CallF Tryz.prog G 104 #[.pointer p] K Kp h := by
  refine S104_ok ?_
  unfold S104
  obtain ⟨cq, cd, hq, hd, hj⟩ := hq
  have hO : Own G h (_ :: _ :: _) := (hO.perm t.perm).openJ hj
  obtain ⟨b2, q, l1, k1, hs, ps, q2, l2, k2, pe, pcs, rfl, hs1, hpls, hs2, hj2⟩ := hq
  have hO : Own G h (_ :: _ :: _ :: (pcs ++ (cd :: R))) := hO.openJ hj2
  have e2 := hs2.len
  rw [endsL_len] at e2
  refine LoopS.go (fun vs h' => h' = h ∧ ∃ m : Nat, m ≤ pls.length ∧ vs = [.int .i64 m]) (fun vs _ => match vs with | [.int _ m] => (pls.length - m).toNat | _ => 0) ⟨rfl, 0, by omega, rfl⟩ ?_
  rintro jv vs h' ⟨rfl, m, hm, rfl⟩
  unfold S104_l2
  refine ⟨_, rfl, NN.go (LdSl.go hO (by with_unfolding_all rfl) (If.dec (fun hlt => ?_) (fun hlt => ?_)))⟩
  · refine NN.go (LdSl.go hO (by with_unfolding_all rfl) (Rq.go (by omega) ?_))
    obtain ⟨x, hx, hn⟩ := (hs2.rdl (L := _ :: _ :: pe :: (pcs ++ (cd :: R))) (by simp)).at eI_ok hO (i := (m : Int)) (by omega) hlt
    refine hn _ fun a _ hc => ?_
    refine LdI.i (hc 0 _ rfl) (NN.go (LdP.g hO ?_))
    refine diskSynced (c := cd) (R := single b2 (.cells #[.pointer d, .slice q l1 k1, .slice q2 l2 k2] 171 (0, 0)) :: ps :: pe :: (pcs ++ R)) (t := ⟨by (refine perm_cnt fun a => ?_; simp only [cnt_app, List.append_eq, cnt_cons, cnt_nil]; omega)⟩) hO hd ?_
    refine ⟨_, rfl, hc 0 _ rfl, cell_g hO ?_⟩
    unfold S104_k1
    refine If.dec (fun _ => Rng.go (by omega) ⟨⟨rfl, m + 1, by omega, rfl⟩, by simp only; omega⟩) (fun _ => ?_)
    unfold S104_k2
    exact hK m hm
  · unfold S104_k1
    refine If.f rfl ?_
    unfold S104_k2
    exact hK m hm
theorem walSync {G h : Heap} {L R : List Heap} {p d : Option Addr} {pls : List (List UInt8)} {n : Nat} {c : Heap} {K : Value → Heap → Prop} {Kp : PK} (hO : Own G h L) [t : Take L c R] (hq : LogP p d pls n c) (hsm : (frames pls).length ≤ 262144) (hn : n ≤ (frames pls).length)
    (hK : ∀ h' c' (m : Int), LogP p d pls (frames pls).length c' → Own G h' (c' :: R) → K (.int .i64 m) h') : CallF Tryz.prog G 78 #[.pointer p] K Kp h := by
  refine S78_ok ?_
  unfold S78
  have hge := frames_ge (pls := pls)
  refine walSynced hO hq (by omega) fun m hm => ?_
  refine ⟨_, rfl, ?_⟩
  obtain ⟨cq, cd, hq, hd, hj⟩ := hq
  have hO : Own G h (cq :: cd :: R) := (hO.perm t.perm).openJ hj
  have hq' := hq
  obtain ⟨b2, q, l1, k1, hs, ps, q2, l2, k2, pe, pcs, hp, hs1, hpls, hs2, hj2⟩ := hq'
  have hOo : Own G h (_ :: _ :: _ :: (pcs ++ (cd :: R))) := hO.openJ hj2
  subst hp
  refine NN.go (LdP.g hOo ?_)
  clear hOo
  refine diskSync (c := cd) (R := cq :: R) (t := ⟨by (refine perm_cnt fun a => ?_; simp only [cnt_app, List.append_eq, cnt_cons, cnt_nil]; omega)⟩) hO hd hsm hn fun h cd' hd' hO => ?_
  refine ⟨_, rfl, ?_⟩
  have hO : Own G h ([cq, cd'] ++ R) := hO.perm (by (refine perm_cnt fun a => ?_; simp only [cnt_app, List.append_eq, cnt_cons, cnt_nil]; omega))
  obtain ⟨hj, hO⟩ := Own.closeJ hO
  have hl : LogP (some ⟨b2, 0, none⟩) d pls (frames pls).length (join [cq, cd']) := ⟨cq, cd', hq, hd', hj⟩
  refine walSynced hO hl (by omega) fun m2 hm2 => ?_
  exact ⟨_, rfl, Rng.go (by omega) (hK _ _ _ hl hO)⟩
end Go.Sl
set_option maxRecDepth 100000
namespace Go.Sl
open Go Go.Proofs
def bnd (f : Int) (v : List Int) (m : Int) : Int × Int :=
  bif f == 1 then (1, 255) else bif f == 2 then (1, 64) else bif f == 3 || f == 8 then (0, 4096) else bif f == 4 then (1, 65) else bif f == 5 then (1, 4096)
  else bif f == 6 then (0, 4096) else bif f == 7 then (1, 4096) else bif f == 9 then (0, 2) else bif f == 10 then (bif v.getD 9 0 == 0 then (0, 0) else (0, 4095))
  else bif f == 11 then (bif v.getD 9 0 == 1 then (32, 126) else (0, 0)) else bif f == 12 then (bif m != 0 then (m, m) else (1, 64)) else (1, 64)
def mayB (f : Int) (v : List Int) (m : Int) : Bool := decide ((bnd f v m).1 ≤ v.getD f.toNat 0) && decide (v.getD f.toNat 0 ≤ (bnd f v m).2)
theorem vget {G h : Heap} {L : List Heap} {b : Nat} {v : List Int} (hO : Own G h L) (hr : Rdl L eI (some ⟨b, 0, none⟩) 14 v) {i : Nat} (hi : i < 14) : hcell (rd G h) ⟨b, 0 + i, none⟩ = some (.int .i64 (v.getD i 0)) := by
  have hl := hr.len hO
  have hx : v[i]? = some (v.getD i 0) := by rw [List.getD_eq_getElem?_getD, List.getElem?_eq_getElem (by omega)]; rfl
  have := (hr G h hO).cell eI_ok rfl hx (j := 0) (v := .int .i64 (v.getD i 0)) rfl
  simpa [eI] using this
theorem wireBounds {G h : Heap} {L : List Heap} {b : Nat} {v : List Int} {f m : Int} {K : Value → Heap → Prop} {Kp : PK} (hO : Own G h L) (hr : Rdl L eI (some ⟨b, 0, none⟩) 14 v)
    (hK : K (.tuple #[.int .i64 (bnd f v m).1, .int .i64 (bnd f v m).2]) h) : CallF Tryz.prog G 140 #[.int .i64 f, .pointer (some ⟨b, 0, none⟩), .int .i64 m] K Kp h := by
  refine S140_ok ?_
  have h9 := vget hO hr (i := 9) (by omega)
  unfold S140 S140_k1
  cases e1 : (f == 1) with
  | true => simp only [If, bnd, e1, cond_true, cond_false, Bool.true_or, Bool.or_true] at hK ⊢; exact hK
  | false =>
  have _x1 := e1
  cases e2 : (f == 2) with
  | true => simp only [If, bnd, e1, e2, cond_true, cond_false, Bool.true_or, Bool.or_true] at hK ⊢; exact hK
  | false =>
  have _x2 := e2
  cases e3 : (f == 3) with
  | true => simp only [If, bnd, e1, e2, e3, cond_true, cond_false, Bool.true_or, Bool.or_true] at hK ⊢; exact hK
  | false =>
  have _x3 := e3
  cases e8 : (f == 8) with
  | true => simp only [If, bnd, e1, e2, e3, e8, cond_true, cond_false, Bool.true_or, Bool.or_true] at hK ⊢; exact hK
  | false =>
  have _x8 := e8
  cases e4 : (f == 4) with
  | true => simp only [If, bnd, e1, e2, e3, e8, e4, cond_true, cond_false, Bool.true_or, Bool.or_true] at hK ⊢; exact hK
  | false =>
  have _x4 := e4
  cases e5 : (f == 5) with
  | true => simp only [If, bnd, e1, e2, e3, e8, e4, e5, cond_true, cond_false, Bool.true_or, Bool.or_true] at hK ⊢; exact hK
  | false =>
  have _x5 := e5
  cases e6 : (f == 6) with
  | true => simp only [If, bnd, e1, e2, e3, e8, e4, e5, e6, cond_true, cond_false, Bool.true_or, Bool.or_true] at hK ⊢; exact hK
  | false =>
  have _x6 := e6
  cases e7 : (f == 7) with
  | true => simp only [If, bnd, e1, e2, e3, e8, e4, e5, e6, e7, cond_true, cond_false, Bool.true_or, Bool.or_true] at hK ⊢; exact hK
  | false =>
  have _x7 := e7
  cases e9 : (f == 9) with
  | true => simp only [If, bnd, e1, e2, e3, e8, e4, e5, e6, e7, e9, cond_true, cond_false, Bool.true_or, Bool.or_true] at hK ⊢; exact hK
  | false =>
  have _x9 := e9
  cases e10 : (f == 10) with
  | true =>
    simp only [If, bnd, e1, e2, e3, e8, e4, e5, e6, e7, e9, e10, cond_true, cond_false, Bool.or_false] at hK ⊢
    refine NN.go (Rq.go (by omega) (LdI.i h9 ?_))
    cases e : (v.getD 9 0 == 0) <;> simp only [e, cond_true, cond_false] at hK ⊢ <;> exact hK
  | false =>
  cases e11 : (f == 11) with
  | true =>
    simp only [If, bnd, e1, e2, e3, e8, e4, e5, e6, e7, e9, e10, e11, cond_true, cond_false, Bool.or_false] at hK ⊢
    refine NN.go (Rq.go (by omega) (LdI.i h9 ?_))
    cases e : (v.getD 9 0 == 1) <;> simp only [e, cond_true, cond_false] at hK ⊢ <;> exact hK
  | false =>
  simp only [If, bnd, e1, e2, e3, e8, e4, e5, e6, e7, e9, e10, e11, cond_true, cond_false, Bool.or_false] at hK ⊢
  cases e12 : (f == 12) <;> cases e : (m != 0) <;> simp only [e, e12, cond_true, cond_false] at hK ⊢ <;> exact hK
theorem wireMay {G h : Heap} {L : List Heap} {b : Nat} {v : List Int} {f m : Int} {K : Value → Heap → Prop} {Kp : PK} (hO : Own G h L) (hr : Rdl L eI (some ⟨b, 0, none⟩) 14 v) (hf : 0 ≤ f ∧ f < 14)
    (hK : K (.bool (mayB f v m)) h) : CallF Tryz.prog G 99 #[.int .i64 f, .pointer (some ⟨b, 0, none⟩), .int .i64 m] K Kp h := by
  refine S99_ok ?_
  unfold S99
  refine wireBounds hO hr ⟨_, _, rfl, NN.go (Rq.go hf (LdI.i (n := v.getD f.toNat 0) ?_ ?_))⟩
  · have := vget hO hr (i := f.toNat) (by omega)
    rw [add_mk, Nat.mul_one]; exact this
  · unfold S99_k1
    refine If.dec (fun h1 => ?_) (fun h1 => ?_)
    · refine NN.go (Rq.go hf (LdI.i (n := v.getD f.toNat 0) ?_ ?_))
      · have := vget hO hr (i := f.toNat) (by omega)
        rw [add_mk, Nat.mul_one]; exact this
      · simp only [mayB, ge_iff_le] at hK h1
        rw [decide_eq_true h1, Bool.true_and] at hK; exact hK
    · simp only [mayB, ge_iff_le] at hK h1
      rw [decide_eq_false h1, Bool.false_and] at hK; exact hK
end Go.Sl
set_option maxRecDepth 100000
namespace Go.Sl
open Go Go.Proofs
/-- Elements that never change. -/
def RdA {α : Type} (G : Heap) (e : En α) (p : Option Addr) (l : Nat) (xs : List α) : Prop := ∀ L h, Own G h L → RdS G h e p l xs
theorem RdS.at {α : Type} {e : En α} (ok : e.Ok) {p : Option Addr} {l : Nat} {xs : List α} {G h : Heap} (hs : RdS G h e p l xs) {i : Int} (h0 : 0 ≤ i) (h1 : i < (l : Int)) : ∃ x, xs[i.toNat]? = some x ∧ ∀ K, (∀ a, p = some a → (∀ j v, (e.E x)[j]? = some v → hcell (rd G h) ((a.add (i.toNat * e.m)).add j) = some v) → K a) → NN p K := by
  have hl := hs.1
  have hi : i.toNat < xs.length := by omega
  refine ⟨xs[i.toNat], by simp [hi], fun K hK => ?_⟩
  cases p with
  | none => have := hs.2; simp only at this; omega
  | some a =>
    refine hK a rfl fun j v hj => ?_
    have hjm : j < e.m := by rw [← ok.hm xs[i.toNat]]; exact (List.getElem?_eq_some_iff.1 hj).1
    have := hs.2 (i.toNat * e.m + j) v (by rw [En.F_get ok (i := i.toNat) (x := xs[i.toNat]) (by simp [hi]) hjm]; exact hj)
    have hadd : (a.add (i.toNat * e.m)).add j = a.add (i.toNat * e.m + j) := by
      unfold Addr.add
      by_cases h1 : i.toNat * e.m = 0
      · simp [h1]
      · by_cases h2 : j = 0
        · simp [h1, h2]
        · simp [h1, h2, Nat.add_assoc]
    rw [hadd]; exact this
def sizeL : List Int := [1, 1, 1, 2, 1, 2, 2, 2, 2, 1, 2, 1, 1, 1]
def shapesL : List (List Int) := [[], [1, 2, 3, 4], [1, 2, 5, 6, 8, 9, 10, 11, 12, 13], [1, 2, 6], [1, 2], [1, 2, 5, 6, 7, 9, 10, 11, 12, 13], [1, 2, 6]]
def itemShapesL : List (List Int) := [[], [1], [8, 9, 10, 11, 12, 13]]
def itemFieldsL : List Int := [1, 8, 9, 10, 11, 12, 13]
/-- The wire's tables. -/
structure Gw (G : Heap) : Prop where
  size : ∃ t z, G 4 = some (.cells (eI.F sizeL).toArray t z)
  fields : ∃ t z, G 1 = some (.cells (eI.F itemFieldsL).toArray t z)
  shapes : ∃ hs t z, G 3 = some (.cells (eSl.F hs).toArray t z) ∧ hs.length = 7 ∧ ∀ (i : Nat) (hd : Option Addr × Nat × Nat) (s : List Int), hs[i]? = some hd → shapesL[i]? = some s → RdA G eI hd.1 hd.2.1 s
  items : ∃ hs t z, G 0 = some (.cells (eSl.F hs).toArray t z) ∧ hs.length = 3 ∧ ∀ (i : Nat) (hd : Option Addr × Nat × Nat) (s : List Int), hs[i]? = some hd → itemShapesL[i]? = some s → RdA G eI hd.1 hd.2.1 s
theorem sizeCell {G h : Heap} {L : List Heap} (hO : Own G h L) (hw : Gw G) {f : Int} (hf : 0 ≤ f ∧ f < 14) : hcell (rd G h) ((⟨4, 0, none⟩ : Addr).add (f.toNat * 1)) = some (.int .i64 (sizeL.getD f.toNat 0)) := by
  obtain ⟨t, z, hg⟩ := hw.size
  rw [add_mk]
  refine glob_cell hO hg ?_
  have hi2 : f.toNat < 14 := by omega
  simp only [ocell, Option.isSome_none, Bool.false_eq_true, if_false, List.getElem?_toArray]
  have := En.F_get eI_ok (xs := sizeL) (i := f.toNat) (j := 0) (x := sizeL.getD f.toNat 0) (by rw [List.getD_eq_getElem?_getD, List.getElem?_eq_getElem (by exact hi2)]; rfl) (by decide)
  rw [show (0 : Nat) + f.toNat * 1 = f.toNat * eI.m + 0 by simp [eI], this]; rfl
theorem wireNamed {G h : Heap} {L : List Heap} {p : Option Addr} {l c : Nat} {shape : List Int} {f : Int} {K : Value → Heap → Prop} {Kp : PK} (hO : Own G h L) (hs : RdA G eI p l shape) (hsm : shape.length ≤ 100)
    (hK : K (.bool (shape.contains f)) h) : CallF Tryz.prog G 98 #[.slice p l c, .int .i64 f] K Kp h := by
  refine S98_ok ?_
  have hl := (hs L h hO).1
  unfold S98
  refine LoopS.go (fun vs h' => h' = h ∧ ∃ n : Nat, n ≤ l ∧ vs = [.int .i64 n] ∧ (shape.take n).contains f = false) (fun vs _ => match vs with | [.int _ n] => (l - n).toNat | _ => 0) ⟨rfl, 0, by omega, rfl, rfl⟩ ?_
  rintro jv vs h' ⟨rfl, n, hn, rfl, hnot⟩
  unfold S98_l2
  refine ⟨_, rfl, If.dec (fun hlt => ?_) (fun hlt => ?_)⟩
  · refine Rq.go ⟨by omega, hlt⟩ ?_
    obtain ⟨x, hx, hn'⟩ := (hs L h' hO).at eI_ok (i := (n : Int)) (by omega) hlt
    refine hn' _ fun a _ hc => ?_
    have hx' : shape[n]? = some x := by simpa using hx
    refine LdI.i (hc 0 _ rfl) (If.mk (fun e => ?_) (fun e => ?_))
    · have hm : f ∈ shape := by
        have : x = f := by simpa using e
        subst this; exact List.mem_of_getElem? hx'
      rw [List.contains_iff_mem.2 hm] at hK; exact hK
    · refine Rng.go (by omega) ⟨⟨rfl, n + 1, by omega, rfl, ?_⟩, by simp only; omega⟩
      rw [List.take_add_one, hx']
      have hxf : x ≠ f := by simpa using e
      simp only [Option.toList_some, List.contains_eq_mem, List.mem_append, List.mem_singleton, decide_eq_false_iff_not] at hnot ⊢
      rintro (h1 | h1)
      · exact hnot h1
      · exact hxf h1.symm
  · unfold S98_k1
    have : n = l := by omega
    subst this
    rw [hl, List.take_length] at hnot
    rw [hnot] at hK; exact hK
def longS (shape : List Int) : Int := shape.foldl (fun n f => n + sizeL.getD f.toNat 0) 1
theorem wireLong {G h : Heap} {L : List Heap} {p : Option Addr} {l c : Nat} {shape : List Int} {K : Value → Heap → Prop} {Kp : PK} (hO : Own G h L) (hw : Gw G) (hs : RdA G eI p l shape) (hsm : shape.length ≤ 100) (hf : ∀ f ∈ shape, 0 ≤ f ∧ f < 14)
    (hK : K (.int .i64 (longS shape)) h) : CallF Tryz.prog G 162 #[.slice p l c] K Kp h := by
  refine S162_ok ?_
  have hl := (hs L h hO).1
  have hb : ∀ f : Int, 0 ≤ sizeL.getD f.toNat 0 ∧ sizeL.getD f.toNat 0 ≤ 2 := fun f => by
    rw [List.getD_eq_getElem?_getD]
    cases e : sizeL[f.toNat]? with
    | none => simp
    | some x =>
      have := List.mem_of_getElem? e
      simp only [sizeL, List.mem_cons, List.not_mem_nil, or_false] at this
      simp only [Option.getD_some]; omega
  unfold S162
  refine LoopS.go (fun vs h' => h' = h ∧ ∃ n : Nat, n ≤ l ∧ vs = [.int .i64 (longS (shape.take n)), .int .i64 n] ∧ 0 ≤ longS (shape.take n) ∧ longS (shape.take n) ≤ 1 + 2 * n) (fun vs _ => match vs with | [_, .int _ n] => (l - n).toNat | _ => 0) ⟨rfl, 0, by omega, rfl, by simp [longS], by simp [longS]⟩ ?_
  rintro jv vs h' ⟨rfl, n, hn, rfl, hb1, hb2⟩
  unfold S162_l3
  refine ⟨_, _, rfl, If.dec (fun hlt => ?_) (fun hlt => ?_)⟩
  · refine Rq.go ⟨by omega, hlt⟩ ?_
    obtain ⟨x, hx, hn'⟩ := (hs L h' hO).at eI_ok (i := (n : Int)) (by omega) hlt
    refine hn' _ fun a _ hc => ?_
    have hx' : shape[n]? = some x := by simpa using hx
    have hxr := hf x (List.mem_of_getElem? hx')
    have hlo : longS (shape.take (n + 1)) = longS (shape.take n) + sizeL.getD x.toNat 0 := by
      rw [List.take_add_one, hx']; simp [longS, List.foldl_append]
    have := hb x
    refine LdI.i (hc 0 _ rfl) (Rq.go hxr (LdI.i (sizeCell hO hw hxr) (Rng.go (by omega) (Rng.go (by omega) ⟨⟨rfl, n + 1, by omega, by rw [hlo]; rfl, by omega, by omega⟩, by simp only; omega⟩))))
  · unfold S162_k1
    have : n = l := by omega
    subst this
    rw [hl, List.take_length]
    exact hK
end Go.Sl
set_option maxRecDepth 100000
namespace Go.Sl
open Go Go.Proofs
def layF (v : List Int) (f : Int) : List UInt8 :=
  let x := v.getD f.toNat 0
  bif sizeL.getD f.toNat 0 == 2 then [byt (Int.fdiv x (2 ^ 8)), byt x] else [byt x]
def layB (v : List Int) (shape : List Int) : List UInt8 := byt (v.getD 0 0) :: shape.flatMap (layF v)
theorem size12 {f : Int} (h : 0 ≤ f ∧ f < 14) : sizeL.getD f.toNat 0 = 1 ∨ sizeL.getD f.toNat 0 = 2 := by
  have : f = 0 ∨ f = 1 ∨ f = 2 ∨ f = 3 ∨ f = 4 ∨ f = 5 ∨ f = 6 ∨ f = 7 ∨ f = 8 ∨ f = 9 ∨ f = 10 ∨ f = 11 ∨ f = 12 ∨ f = 13 := by omega
  rcases this with h | h | h | h | h | h | h | h | h | h | h | h | h | h <;> subst h <;> decide
theorem wrapU64i {n : Int} (h0 : 0 ≤ n) (h : n < 65536) : IntKind.u64.wrap n = n := by
  have : IntKind.u64.wrap n = n % 18446744073709551616 := by simp [IntKind.wrap, IntKind.signed, IntKind.bits]
  rw [this]; omega
theorem layF_len (v : List Int) (f : Int) : (layF v f).length ≤ 2 := by
  unfold layF; cases (sizeL.getD f.toNat 0 == 2) <;> simp
theorem wireLay {G h : Heap} {L : List Heap} {b : Nat} {v : List Int} {p : Option Addr} {l c : Nat} {shape : List Int} {K : Value → Heap → Prop} {Kp : PK} (hO : Own G h L) (hw : Gw G) (hr : Rdl L eI (some ⟨b, 0, none⟩) 14 v) (hs : RdA G eI p l shape) (hsm : shape.length ≤ 100) (hf : ∀ f ∈ shape, 0 ≤ f ∧ f < 14) (hv : ∀ f : Nat, 0 ≤ v.getD f 0 ∧ v.getD f 0 < 65536)
    (hK : ∀ h' b' n pc, Sli eU8 (some ⟨b', 0, none⟩) n n (layB v shape) pc → Own G h' (pc :: L) → K (.slice (some ⟨b', 0, none⟩) n n) h') : CallF Tryz.prog G 100 #[.pointer (some ⟨b, 0, none⟩), .slice p l c] K Kp h := by
  refine S100_ok ?_
  have hl := (hs L h hO).1
  unfold S100
  refine newK.go hO ?_
  intro r h hO
  refine st1.g hO ?_
  clear hO; intro h hO
  dsimp only [ad, List.set] at hO
  refine st1.g hO ?_
  clear hO; intro h hO
  dsimp only [ad, List.set] at hO
  refine st1.g hO ?_
  clear hO; intro h hO
  dsimp only [ad, List.set] at hO
  refine NN.go (Rq.go (by omega) (LdI.i (vget hO (hr.cons _) (i := 0) (by omega)) ?_))
  rw [wrapU64i (hv 0).1 (hv 0).2]
  refine octPut8 hO (Rdl.nil _ _) (by omega) fun h b1 pc hs1 hO => ?_
  refine ⟨_, _, _, rfl, ?_⟩
  generalize hX : single r (.cells #[.nilFunc, .func (.func 141) #[] #[], .func (.func 142) #[] #[]] _ (0, 0)) = X at *
  refine LoopS.go (fun vs h' => ∃ (n b' k : Nat) (pc : Heap), n ≤ l ∧ vs = [.slice (some ⟨b', 0, none⟩) k k, .int .i64 n] ∧ k ≤ 1 + 2 * n ∧ Sli eU8 (some ⟨b', 0, none⟩) k k (layB v (shape.take n)) pc ∧ Own G h' (pc :: X :: L)) (fun vs _ => match vs with | [_, .int _ n] => (l - n).toNat | _ => 0) ⟨0, b1, 1, pc, by omega, rfl, by omega, by simpa [layB] using hs1, hO⟩ ?_
  rintro jv vs h ⟨n, b', k, pc, hn, rfl, hk, hsl, hO⟩
  unfold S100_l4
  refine ⟨_, _, _, _, rfl, If.dec (fun hlt => ?_) (fun hlt => ?_)⟩
  · refine Rq.go ⟨by omega, hlt⟩ ?_
    obtain ⟨x, hx, hn'⟩ := (hs _ h hO).at eI_ok (i := (n : Int)) (by omega) hlt
    refine hn' _ fun a _ hc => ?_
    have hx' : shape[n]? = some x := by simpa using hx
    have hxr := hf x (List.mem_of_getElem? hx')
    have hvx := hv x.toNat
    have hvc := vget hO ((hr.cons X).cons pc) (i := x.toNat) (by omega)
    have hxs := sizeCell hO hw hxr
    have htk : layB v (shape.take (n + 1)) = layB v (shape.take n) ++ layF v x := by
      rw [List.take_add_one, hx']; simp [layB]
    refine LdI.i (hc 0 _ rfl) (Rq.go hxr (LdI.i hxs ?_))
    rcases size12 hxr with e | e <;> rw [e]
    · refine Rq.go (by omega) ?_
      subst hX
      rw [add_mk]
      refine LdV.go hO (by with_unfolding_all rfl) (NN.go (Rq.go hxr (LdI.i (n := v.getD x.toNat 0) (by rw [add_mk, Nat.mul_one]; exact hvc) ?_)))
      rw [wrapU64i hvx.1 hvx.2]
      show CallF Tryz.prog G 141 #[_, _] _ _ _
      refine octPut8 hO (hsl.rdl (by simp)) (by omega) fun h b2 pc2 hs2 hO => ?_
      refine ⟨_, _, _, rfl, Rng.go (by omega) ⟨⟨n + 1, b2, k + 1, pc2, by omega, rfl, by omega, ?_, hO.drop2⟩, by simp only; omega⟩⟩
      rw [htk]; unfold layF; rw [e]; exact hs2
    · refine Rq.go (by omega) ?_
      subst hX
      rw [add_mk]
      refine LdV.go hO (by with_unfolding_all rfl) (NN.go (Rq.go hxr (LdI.i (n := v.getD x.toNat 0) (by rw [add_mk, Nat.mul_one]; exact hvc) ?_)))
      rw [wrapU64i hvx.1 hvx.2]
      show CallF Tryz.prog G 142 #[_, _] _ _ _
      refine octPut16 hO (hsl.rdl (by simp)) (by omega) fun h b2 pc2 hs2 hO => ?_
      refine ⟨_, _, _, rfl, Rng.go (by omega) ⟨⟨n + 1, b2, k + 2, pc2, by omega, rfl, by omega, ?_, hO.drop2⟩, by simp only; omega⟩⟩
      rw [htk]; unfold layF; rw [e]; exact hs2
  · unfold S100_k1
    have : n = l := by omega
    subst this
    rw [hl, List.take_length] at hsl
    exact hK _ _ _ _ hsl hO.drop2
end Go.Sl
set_option maxRecDepth 100000
namespace Go.Sl
open Go Go.Proofs
theorem byt_int {x : Int} (h0 : 0 ≤ x) (h1 : x < 256) : ((byt x).toNat : Int) = x := by
  rw [byt_nat]
  have : IntKind.u8.wrap x = x % 256 := by simp [IntKind.wrap, IntKind.signed, IntKind.bits]
  rw [this]; omega
theorem put16_int {x : Int} (h0 : 0 ≤ x) (h1 : x < 65536) : (((byt (Int.fdiv x (2 ^ 8))).toNat * 256 + (byt x).toNat : Nat) : Int) = x := by
  obtain ⟨n, rfl⟩ : ∃ n : Nat, x = n := ⟨x.toNat, by omega⟩
  rw [put16_val n (by omega)]
theorem stV {G h : Heap} {L : List Heap} {b i : Nat} {o : Obj} {u : Obj → List Heap} {w : List Int} {x : Int} {t : TypeId} {K : Heap → Prop} (hO : Own G h L) [f : Find L b o u] (ho : o = .cells (eI.F w).toArray t (0, 0)) (hw : w.length = 14) (hi : i < 14)
    (hk : ∀ h', Own G h' (u (.cells (eI.F (w.set i x)).toArray t (0, 0))) → K h') : st1 ⟨b, i, none⟩ (.int .i64 x) K h := by
  have hx : w[i]? = some (w[i]'(by omega)) := List.getElem?_eq_getElem (by omega)
  have hs := En.F_set eI_ok (y := x) (v := .int .i64 x) (j := 0) hx (by decide) rfl
  refine ⟨rfl, o, hO.find f, ?_, ?_, ?_⟩
  · refine ⟨.int .i64 (w[i]'(by omega)), ?_⟩
    have := En.F_get eI_ok hx (j := 0) (by decide)
    rw [ho]
    simp only [ocell, Option.isSome_none, Bool.false_eq_true, if_false, List.getElem?_toArray]
    rw [show i * eI.m + 0 = i by simp [eI]] at this
    rw [this]; rfl
  · rw [ho]; simp [ofrozen]
  · have e : oset o i (.int .i64 x) = .cells (eI.F (w.set i x)).toArray t (0, 0) := by
      rw [ho, ← hs]
      simp only [oset, List.setIfInBounds_toArray]
      rw [show i * eI.m + 0 = i by simp [eI]]
    show K (hupd h b (oset o i (.int .i64 x)))
    rw [e]; exact hk _ (hO.set f _)
def pv (v shape : List Int) (k : Nat) : List Int := (shape.take k).foldl (fun w f => w.set f.toNat (v.getD f.toNat 0)) ((List.replicate 14 0).set 0 (v.getD 0 0))
theorem foldset_len (v : List Int) : ∀ (s w : List Int), (s.foldl (fun w f => w.set f.toNat (v.getD f.toNat 0)) w).length = w.length := by
  intro s
  induction s with
  | nil => intro w; rfl
  | cons f s ih => intro w; rw [List.foldl_cons, ih, List.length_set]
theorem pv_len (v shape : List Int) (k : Nat) : (pv v shape k).length = 14 := by
  unfold pv; rw [foldset_len, List.length_set, List.length_replicate]
theorem pv_succ {v shape : List Int} {k : Nat} {x : Int} (h : shape[k]? = some x) : pv v shape (k + 1) = (pv v shape k).set x.toNat (v.getD x.toNat 0) := by
  unfold pv; rw [List.take_add_one, h, List.foldl_append]; rfl
theorem list14 {w : List Int} (h : w.length = 14) : ∃ a0 a1 a2 a3 a4 a5 a6 a7 a8 a9 a10 a11 a12 a13, w = [a0, a1, a2, a3, a4, a5, a6, a7, a8, a9, a10, a11, a12, a13] := by
  match w, h with
  | [a0, a1, a2, a3, a4, a5, a6, a7, a8, a9, a10, a11, a12, a13], _ => exact ⟨_, _, _, _, _, _, _, _, _, _, _, _, _, _, rfl⟩
def vagg (w : List Int) : Value := .agg (w.map fun x => Value.int .i64 x).toArray
theorem pick_k1 {G h : Heap} {L : List Heap} {K : Value → Heap → Prop} {Kp : PK} {x n20 m : Int} {r9 r8 n : Nat} {w : List Int} {Kn : List Value → Heap → Prop} (hO : Own G h L) (hr : Rdl L eI (some ⟨r9, 0, none⟩) 14 w) (hx : 0 ≤ x ∧ x < 14) (hm : mayB x w m = true) (hn : n ≤ 1000) (hK : Kn [.int .i64 ((n : Int) + 1)] h) :
    S163_k1 G K Kp x r9 n20 r8 n Kn m h := by
  unfold S163_k1
  refine wireMay hO hr hx ⟨_, rfl, If.f (by rw [hm]; rfl) (Rng.go (by omega) hK)⟩
theorem pick_fin {G h A B C : Heap} {L : List Heap} {K : Value → Heap → Prop} {Kp : PK} {x n20 vx : Int} {r9 r8 n : Nat} {w : List Int} {own : Bool} {Kn : List Value → Heap → Prop} (hO : Own G h (A :: B :: C :: single r9 (.cells (eI.F w).toArray 202 (0, 0)) :: L)) (hw : w.length = 14) (hx : 0 ≤ x ∧ x < 14)
    (hm : mayB x (w.set x.toNat vx) (bif own then (w.set x.toNat vx).getD 2 0 else 0) = true) (hn : n ≤ 1000) (hK : ∀ h', Own G h' (A :: B :: C :: single r9 (.cells (eI.F (w.set x.toNat vx)).toArray 202 (0, 0)) :: L) → Kn [.int .i64 ((n : Int) + 1)] h') :
    st1 ((⟨r9, 0, none⟩ : Addr).add (x.toNat * 1)) (.int .i64 vx) (fun h => If own (Rq ((0 : Int) ≤ 2 ∧ 2 < ((14 : Nat) : Int)) (LdI G h .i64 (⟨r9, 2, none⟩ : Addr) fun n_26 => (S163_k1 G K Kp x r9 n20 r8 n Kn n_26 h))) (S163_k1 G K Kp x r9 n20 r8 n Kn 0 h)) h := by
  rw [add_mk, Nat.zero_add, Nat.mul_one]
  refine stV hO rfl hw (by omega) fun h hO => ?_
  have hr : Rdl (A :: B :: C :: single r9 (.cells (eI.F (w.set x.toNat vx)).toArray 202 (0, 0)) :: L) eI (some ⟨r9, 0, none⟩) 14 (w.set x.toNat vx) := Rdl.lit rfl (by rw [List.length_set, hw])
  refine If.mk (fun e => ?_) (fun e => ?_)
  · rw [e] at hm
    exact Rq.go (by omega) (LdI.i (vget hO hr (i := 2) (by omega)) (pick_k1 hO hr hx hm hn (hK _ hO)))
  · rw [e] at hm
    exact pick_k1 hO hr hx hm hn (hK _ hO)
theorem wirePick {G h : Heap} {L : List Heap} {pb : Option Addr} {l c : Nat} {v : List Int} {p : Option Addr} {ls cs : Nat} {shape : List Int} {own : Bool} {K : Value → Heap → Prop} {Kp : PK} (hO : Own G h L) (hw : Gw G) (hr : Rdl L eU8 pb l (layB v shape)) (hs : RdA G eI p ls shape) (hsm : shape.length ≤ 100) (hf : ∀ f ∈ shape, 0 ≤ f ∧ f < 14) (hlsm : l ≤ 1000)
    (hv : ∀ f : Nat, 0 ≤ v.getD f 0 ∧ v.getD f 0 < 65536) (hv1 : ∀ f : Nat, sizeL.getD f 0 = 1 → v.getD f 0 < 256)
    (hm : ∀ k x, shape[k]? = some x → mayB x (pv v shape (k + 1)) (bif own then (pv v shape (k + 1)).getD 2 0 else 0) = true)
    (hK : ∀ h', Own G h' L → K (.tuple #[vagg (pv v shape shape.length), .nilIface]) h') : CallF Tryz.prog G 163 #[.slice pb l c, .slice p ls cs, .bool own] K Kp h := by
  refine S163_ok ?_
  have hl := (hs L h hO).1
  unfold S163
  refine newK.go hO ?_
  intro r8 h hO
  refine newK.go hO ?_
  intro r9 h hO
  refine octNewReader hO ((hr.cons _).cons _) (by omega) fun h rb rq pc hsl hO => ?_
  refine ⟨_, rfl, newK.go hO ?_⟩
  intro r12 h hO
  refine st1.g hO ?_
  clear hO; intro h hO
  dsimp only [ad, List.set] at hO
  refine st1.g hO ?_
  clear hO; intro h hO
  dsimp only [ad, List.set] at hO
  refine st1.g hO ?_
  clear hO; intro h hO
  dsimp only [ad, List.set] at hO
  generalize hX : single r12 (.cells #[.nilFunc, .func (.func 182) #[.pointer (some ⟨rb, 0, none⟩)] #[], .func (.func 155) #[.pointer (some ⟨rb, 0, none⟩)] #[]] _ (0, 0)) = X at *
  have hO : Own G h (rdr rb (some ⟨rq, 0, none⟩) l l 0 (0, 0) :: X :: pc :: single r9 (.cells (eI.F (List.replicate 14 0)).toArray 202 (0, 0)) :: single r8 (.cells (eI.F (List.replicate 14 0)).toArray 202 (0, 0)) :: L) := hO.perm (List.Perm.swap _ _ _)
  have h0 : (layB v shape)[0]? = some (byt (v.getD 0 0)) := rfl
  refine octU8 hO (hsl.rdl (by simp)) (by omega) (by omega) h0 fun h hO => ?_
  have hv0 := hv 0
  have hv01 := hv1 0 (by decide)
  rw [byt_int hv0.1 hv01]
  refine ⟨_, rfl, Rq.go (by omega) (stV hO rfl (by simp) (by omega) ?_)⟩
  clear hO; intro h hO
  refine LoopS.go (fun vs h' => ∃ (n : Nat), n ≤ ls ∧ vs = [.int .i64 n] ∧ Own G h' (rdr rb (some ⟨rq, 0, none⟩) l l (layB v (shape.take n)).length (0, 0) :: X :: pc :: single r9 (.cells (eI.F (pv v shape n)).toArray 202 (0, 0)) :: single r8 (.cells (eI.F (List.replicate 14 0)).toArray 202 (0, 0)) :: L)) (fun vs _ => match vs with | [.int _ n] => (ls - n).toNat | _ => 0) ⟨0, by omega, rfl, hO⟩ ?_
  rintro jv vs h ⟨n, hn, rfl, hO⟩
  unfold S163_l6
  refine ⟨_, rfl, If.dec (fun hlt => ?_) (fun hlt => ?_)⟩
  · refine Rq.go ⟨by omega, hlt⟩ ?_
    obtain ⟨x, hx, hn'⟩ := (hs _ h hO).at eI_ok (i := (n : Int)) (by omega) hlt
    refine hn' _ fun a _ hc => ?_
    have hx' : shape[n]? = some x := by simpa using hx
    have hxr := hf x (List.mem_of_getElem? hx')
    have hvx := hv x.toNat
    have hxs := sizeCell hO hw hxr
    have htk : layB v (shape.take (n + 1)) = layB v (shape.take n) ++ layF v x := by
      rw [List.take_add_one, hx']; simp [layB]
    have hall : layB v shape = layB v (shape.take n) ++ (layF v x ++ (shape.drop (n + 1)).flatMap (layF v)) := by
      have hnl : n < shape.length := (List.getElem?_eq_some_iff.1 hx').1
      have : shape = shape.take n ++ (x :: shape.drop (n + 1)) := by
        have h1 : shape.drop n = x :: shape.drop (n + 1) := by
          rw [List.drop_eq_getElem_cons hnl]; congr 1
          rw [List.getElem?_eq_getElem hnl] at hx'; simpa using hx'
        rw [← h1, List.take_append_drop]
      conv => lhs; rw [this]
      simp [layB]
    refine LdI.i (hc 0 _ rfl) ?_
    refine octAt hO ⟨_, rfl, Rq.go hxr (LdI.i hxs ?_)⟩
    have hlen8 : (layB v shape).length = l := by
      have := (hr.len (hO.mem (M := L) ?_))
      · exact this.symm
      · exact List.Sublist.cons _ (List.Sublist.cons _ (List.Sublist.cons _ (List.Sublist.cons _ (List.Sublist.cons _ (List.Sublist.refl _)))))
    have hmm := hm n x hx'
    rw [pv_succ hx'] at hmm
    have hKn : ∀ (at_ : Nat), at_ = (layB v (shape.take (n + 1))).length → ∀ h', Own G h' (rdr rb (some ⟨rq, 0, none⟩) l l at_ (0, 0) :: X :: pc :: single r9 (.cells (eI.F ((pv v shape n).set x.toNat (v.getD x.toNat 0))).toArray 202 (0, 0)) :: single r8 (.cells (eI.F (List.replicate 14 0)).toArray 202 (0, 0)) :: L) →
        (∃ (m : Nat), m ≤ ls ∧ [Value.int .i64 ((n : Int) + 1)] = [.int .i64 m] ∧ Own G h' (rdr rb (some ⟨rq, 0, none⟩) l l (layB v (shape.take m)).length (0, 0) :: X :: pc :: single r9 (.cells (eI.F (pv v shape m)).toArray 202 (0, 0)) :: single r8 (.cells (eI.F (List.replicate 14 0)).toArray 202 (0, 0)) :: L)) := by
      intro at_ hat h' hO
      refine ⟨n + 1, by omega, rfl, ?_⟩
      rw [← hat, pv_succ hx']; exact hO
    rcases size12 hxr with e | e <;> rw [e]
    · have hlf : layF v x = [byt (v.getD x.toNat 0)] := by unfold layF; rw [e]; rfl
      refine Rq.go (by omega) ?_
      rw [add_mk]
      subst hX
      refine LdV.g hO ?_
      show CallF Tryz.prog G 182 #[_] _ _ _
      refine octU8 (x := byt (v.getD x.toNat 0)) hO (hsl.rdl (by simp)) (by omega) (by omega) (by rw [hall, hlf, List.getElem?_append_right (by omega), Nat.sub_self]; rfl) fun h hO => ?_
      rw [byt_int hvx.1 (hv1 _ e)]
      refine ⟨_, rfl, Rq.go hxr (pick_fin hO (pv_len _ _ _) hxr hmm (by omega) fun h' hO => ⟨hKn _ (by rw [htk, hlf]; simp) h' hO, by simp only; omega⟩)⟩
    · have hlf : layF v x = [byt (Int.fdiv (v.getD x.toNat 0) (2 ^ 8)), byt (v.getD x.toNat 0)] := by unfold layF; rw [e]; rfl
      refine Rq.go (by omega) ?_
      rw [add_mk]
      subst hX
      refine LdV.g hO ?_
      show CallF Tryz.prog G 155 #[_] _ _ _
      refine octU16 (x := byt (Int.fdiv (v.getD x.toNat 0) (2 ^ 8))) (y := byt (v.getD x.toNat 0)) hO (hsl.rdl (by simp)) (by omega) (by omega) (by rw [hall, hlf, List.getElem?_append_right (by omega), Nat.sub_self]; rfl) (by rw [hall, hlf, List.getElem?_append_right (by omega), Nat.add_sub_cancel_left]; rfl) fun h hO => ?_
      rw [put16_int hvx.1 hvx.2]
      refine ⟨_, rfl, Rq.go hxr (pick_fin hO (pv_len _ _ _) hxr hmm (by omega) fun h' hO => ⟨hKn _ (by rw [htk, hlf]; simp) h' hO, by simp only; omega⟩)⟩
  · have hnl : n = shape.length := by omega
    subst hnl
    unfold S163_k2
    obtain ⟨a0, a1, a2, a3, a4, a5, a6, a7, a8, a9, a10, a11, a12, a13, hpv⟩ := list14 (pv_len v shape shape.length)
    rw [hpv] at hO hK
    have hO : Own G h (rdr rb (some ⟨rq, 0, none⟩) l l (layB v (shape.take shape.length)).length (0, 0) :: X :: pc :: single r9 (.cells #[.int .i64 a0, .int .i64 a1, .int .i64 a2, .int .i64 a3, .int .i64 a4, .int .i64 a5, .int .i64 a6, .int .i64 a7, .int .i64 a8, .int .i64 a9, .int .i64 a10, .int .i64 a11, .int .i64 a12, .int .i64 a13] 202 (0, 0)) :: single r8 (.cells #[.int .i64 0, .int .i64 0, .int .i64 0, .int .i64 0, .int .i64 0, .int .i64 0, .int .i64 0, .int .i64 0, .int .i64 0, .int .i64 0, .int .i64 0, .int .i64 0, .int .i64 0, .int .i64 0] 202 (0, 0)) :: L) := hO
    iterate 14 (refine LdI.g hO ?_)
    iterate 14 (refine st1.g hO ?_; clear hO; intro h hO; dsimp only [List.set] at hO)
    iterate 14 (refine LdI.g hO ?_)
    refine hK h (hO.mem ?_)
    exact List.Sublist.cons _ (List.Sublist.cons _ (List.Sublist.cons _ (List.Sublist.cons _ (List.Sublist.cons _ (List.Sublist.refl _)))))
end Go.Sl
set_option maxRecDepth 100000
namespace Go.Sl
open Go Go.Proofs
theorem wireFlat {G h : Heap} {L : List Heap} {m0 m1 m2 m3 m4 m5 m6 m7 m8 m9 m10 m11 m12 m13 : Int} {K : Value → Heap → Prop} {Kp : PK} (hO : Own G h L) (hc : 0 ≤ m11 ∧ m11 < 256)
    (hK : ∀ h', Own G h' L → K (vagg [m0, m1, m2, m3, m4, m5, m6, m7, m8, m9, m10, m11, m12, m13]) h') :
    CallF Tryz.prog G 97 #[.agg #[.int .i64 m0, .int .i64 m1, .int .i64 m2, .int .i64 m3, .int .i64 m4, .int .i64 m5, .int .i64 m6, .int .i64 m7, .int .i64 m8, .int .i64 m9, .int .i64 m10, .int .u8 m11, .int .i64 m12, .int .i64 m13]] K Kp h := by
  refine S97_ok ?_
  unfold S97
  refine newK.go hO ?_
  clear hO; intro r1 h hO
  refine newK.go hO ?_
  clear hO; intro r2 h hO
  have e : IntKind.i64.wrap m11 = m11 := wrap_i64 (by omega) (by omega)
  iterate 14 (refine LdI.g hO ?_)
  rw [e]
  (repeat (first | refine NN.go ?_ | refine LdI.g hO ?_ | refine cell_g hO ?_ | refine Rq.go (by omega) ?_ | (refine st1.g hO ?_; clear hO; intro h hO; dsimp only [ad, List.set] at hO)))
  exact hK _ hO.drop1.drop1
/-- An operation. -/
structure Op where
  kind : Int
  pos : Int
  ch : Int
  client : Int
  seq : Int
def opV (o : Op) : Value := .agg #[.int .i64 o.kind, .int .i64 o.pos, .int .u8 o.ch, .int .i64 o.client, .int .i64 o.seq]
theorem wireOp {G h : Heap} {L : List Heap} {b : Nat} {v : List Int} {K : Value → Heap → Prop} {Kp : PK} (hO : Own G h L) (hr : Rdl L eI (some ⟨b, 0, none⟩) 14 v) (hc : 0 ≤ v.getD 11 0 ∧ v.getD 11 0 < 256)
    (hK : ∀ h', Own G h' L → K (opV ⟨v.getD 9 0, v.getD 10 0, v.getD 11 0, v.getD 12 0, v.getD 13 0⟩) h') : CallF Tryz.prog G 164 #[.pointer (some ⟨b, 0, none⟩)] K Kp h := by
  refine S164_ok ?_
  unfold S164
  refine newK.go hO ?_
  clear hO; intro r1 h hO
  have hg : ∀ i : Nat, i < 14 → hcell (rd G h) ⟨b, 0 + i, none⟩ = some (.int .i64 (v.getD i 0)) := fun i hi => vget hO (hr.cons _) hi
  have e : IntKind.u8.wrap (v.getD 11 0) = v.getD 11 0 := by
    have : IntKind.u8.wrap (v.getD 11 0) = v.getD 11 0 % 256 := by simp [IntKind.wrap, IntKind.signed, IntKind.bits]
    rw [this]; omega
  refine NN.go (Rq.go (by omega) (LdI.i (hg 9 (by omega)) (NN.go (Rq.go (by omega) (LdI.i (hg 10 (by omega)) (NN.go (Rq.go (by omega) (LdI.i (hg 11 (by omega)) (NN.go (Rq.go (by omega) (LdI.i (hg 12 (by omega)) (NN.go (Rq.go (by omega) (LdI.i (hg 13 (by omega)) ?_))))))))))))))
  rw [e]
  (repeat (first | refine NN.go ?_ | refine LdI.g hO ?_ | refine cell_g hO ?_ | refine Rq.go (by omega) ?_ | (refine st1.g hO ?_; clear hO; intro h hO; dsimp only [ad, List.set] at hO)))
  exact hK _ hO.drop1
end Go.Sl
set_option maxRecDepth 100000
namespace Go.Sl
open Go Go.Proofs
theorem slCell {G : Heap} {g : Nat} {hs : List (Option Addr × Nat × Nat)} {t : TypeId} {z : Nat × Nat} (hg : G g = some (.cells (eSl.F hs).toArray t z)) {i : Nat} {hd : Option Addr × Nat × Nat} (hx : hs[i]? = some hd) : ∀ L h, Own G h L → hcell (rd G h) ((⟨g, 0, none⟩ : Addr).add (i * 1)) = some (.slice hd.1 hd.2.1 hd.2.2) := fun L h hO => by
  rw [add_mk]
  refine glob_cell hO hg ?_
  simp only [ocell, Option.isSome_none, Bool.false_eq_true, if_false, List.getElem?_toArray]
  have := En.F_get eSl_ok hx (j := 0) (by decide)
  rw [show (0 : Nat) + i * 1 = i * eSl.m + 0 by simp [eSl], this]; rfl
theorem itemShape {G : Heap} (hw : Gw G) {k : Nat} {s : List Int} (hk : itemShapesL[k]? = some s) : ∃ p l c, (∀ L h, Own G h L → hcell (rd G h) ((⟨0, 0, none⟩ : Addr).add (k * 1)) = some (.slice p l c)) ∧ RdA G eI p l s := by
  obtain ⟨hs, t, z, hg, hlen, hall⟩ := hw.items
  have hk3 : k < 3 := (List.getElem?_eq_some_iff.1 hk).1
  have hx : hs[k]? = some (hs[k]'(by omega)) := List.getElem?_eq_getElem (by omega)
  exact ⟨_, _, _, slCell hg hx, hall k _ s hx hk⟩
theorem msgShape {G : Heap} (hw : Gw G) {k : Nat} {s : List Int} (hk : shapesL[k]? = some s) : ∃ p l c, (∀ L h, Own G h L → hcell (rd G h) ((⟨3, 0, none⟩ : Addr).add (k * 1)) = some (.slice p l c)) ∧ RdA G eI p l s := by
  obtain ⟨hs, t, z, hg, hlen, hall⟩ := hw.shapes
  have hk3 : k < 7 := (List.getElem?_eq_some_iff.1 hk).1
  have hx : hs[k]? = some (hs[k]'(by omega)) := List.getElem?_eq_getElem (by omega)
  exact ⟨_, _, _, slCell hg hx, hall k _ s hx hk⟩
theorem fieldCell {G h : Heap} {L : List Heap} (hO : Own G h L) (hw : Gw G) {i : Nat} {f : Int} (hf : itemFieldsL[i]? = some f) : hcell (rd G h) ⟨1, i, none⟩ = some (.int .i64 f) := by
  obtain ⟨t, z, hg⟩ := hw.fields
  refine glob_cell hO hg ?_
  simp only [ocell, Option.isSome_none, Bool.false_eq_true, if_false, List.getElem?_toArray]
  have := En.F_get eI_ok hf (j := 0) (by decide)
  rw [show i = i * eI.m + 0 by simp [eI], this]; rfl
def okV (v shape : List Int) (m : Int) (f : Int) : Bool := bif shape.contains f then mayB f v m else v.getD f.toNat 0 == 0
theorem encItemLoop {G h : Heap} {L : List Heap} {b : Nat} {v shape : List Int} {p : Option Addr} {l c : Nat} {K : Value → Heap → Prop} {Kp : PK} (hO : Own G h L) (hw : Gw G) (hr : Rdl L eI (some ⟨b, 0, none⟩) 14 v) (hs : RdA G eI p l shape) (hsm : shape.length ≤ 100) (hf : ∀ f ∈ shape, 0 ≤ f ∧ f < 14) (hv : ∀ f : Nat, 0 ≤ v.getD f 0 ∧ v.getD f 0 < 65536)
    (hok : ∀ f ∈ itemFieldsL, okV v shape 0 f = true)
    (hK : ∀ h' b' n pc, Sli eU8 (some ⟨b', 0, none⟩) n n (layB v shape) pc → Own G h' (pc :: L) → K (.tuple #[.slice (some ⟨b', 0, none⟩) n n, .nilIface]) h') :
    S70_k2 G K Kp p l c ⟨b, 0, none⟩ h := by
  unfold S70_k2
  refine LdI.i (fieldCell hO hw (i := 0) rfl) (LdI.i (fieldCell hO hw (i := 1) rfl) (LdI.i (fieldCell hO hw (i := 2) rfl) (LdI.i (fieldCell hO hw (i := 3) rfl) (LdI.i (fieldCell hO hw (i := 4) rfl) (LdI.i (fieldCell hO hw (i := 5) rfl) (LdI.i (fieldCell hO hw (i := 6) rfl) ?_))))))
  refine LoopS.go (fun vs h' => h' = h ∧ ∃ n : Nat, n ≤ 7 ∧ vs = [.int .i64 n]) (fun vs _ => match vs with | [.int _ n] => (7 - n).toNat | _ => 0) ⟨rfl, 0, by omega, rfl⟩ ?_
  rintro jv vs h' ⟨rfl, n, hn, rfl⟩
  unfold S70_l5
  refine ⟨_, rfl, If.dec (fun hlt => ?_) (fun hlt => ?_)⟩
  · refine Rq.go (by omega) ?_
    have hfx : ∃ f : Int, f ∈ itemFieldsL ∧ (0 ≤ f ∧ f < 14) ∧ ([.int .i64 1, .int .i64 8, .int .i64 9, .int .i64 10, .int .i64 11, .int .i64 12, .int .i64 13] : List Value)[Int.toNat (n : Int) * 1]? = some (.int .i64 f) := by
      have : n = 0 ∨ n = 1 ∨ n = 2 ∨ n = 3 ∨ n = 4 ∨ n = 5 ∨ n = 6 := by omega
      rcases this with h | h | h | h | h | h | h <;> subst h
      · exact ⟨1, by decide, by decide, rfl⟩
      · exact ⟨8, by decide, by decide, rfl⟩
      · exact ⟨9, by decide, by decide, rfl⟩
      · exact ⟨10, by decide, by decide, rfl⟩
      · exact ⟨11, by decide, by decide, rfl⟩
      · exact ⟨12, by decide, by decide, rfl⟩
      · exact ⟨13, by decide, by decide, rfl⟩
    obtain ⟨f, hmem, hfr, hget⟩ := hfx
    refine ⟨f, hget, ?_⟩
    have hof := hok f hmem
    have hfin : S70_k3 G K Kp n (fun vs' h'' => ((h'' = h' ∧ ∃ n : Nat, n ≤ 7 ∧ vs' = [.int .i64 n]) ∧ (match vs' with | [.int _ n] => (7 - n).toNat | _ => 0) < (match [Value.int .i64 (n : Int)] with | [.int _ n] => (7 - n).toNat | _ => 0))) false h' := by
      unfold S70_k3
      exact If.f rfl (Rng.go (by omega) ⟨⟨rfl, n + 1, by omega, rfl⟩, by simp only; omega⟩)
    refine wireNamed hO hs hsm ⟨_, rfl, If.mk (fun e => ?_) (fun e => ?_)⟩
    · unfold okV at hof
      rw [e, cond_true] at hof
      refine wireMay hO hr hfr ⟨_, rfl, If.f (by rw [hof]; rfl) (wireNamed hO hs hsm ⟨_, rfl, If.f (by rw [e]; rfl) hfin⟩)⟩
    · unfold okV at hof
      rw [e, cond_false] at hof
      refine wireNamed hO hs hsm ⟨_, rfl, If.t (by rw [e]; rfl) (Rq.go hfr (LdI.i (n := v.getD f.toNat 0) ?_ ?_))⟩
      · have := vget hO hr (i := f.toNat) (by omega)
        rw [add_mk, Nat.mul_one]; exact this
      · have : (v.getD f.toNat 0 != 0) = false := by
          have h0 : v.getD f.toNat 0 = 0 := by simpa using hof
          rw [h0]; rfl
        rw [this]; exact hfin
  · unfold S70_k4
    refine wireLay hO hw hr hs hsm hf hv fun h' b' n pc hsl hO => ?_
    exact ⟨_, _, _, rfl, hK _ _ _ _ hsl hO⟩
end Go.Sl
set_option maxRecDepth 100000
namespace Go.Sl
open Go Go.Proofs
def itemV (k ep tag : Int) (o : Op) : List Int := [k, ep, 0, 0, 0, 0, 0, 0, tag, o.kind, o.pos, o.ch, o.client, o.seq]
theorem wireEncodeItem {G h : Heap} {L : List Heap} {k : Nat} {ep tag : Int} {o : Op} {shape : List Int} {K : Value → Heap → Prop} {Kp : PK} (hO : Own G h L) (hw : Gw G) (hk : 1 ≤ k ∧ k ≤ 2) (hsh : itemShapesL[k]? = some shape) (hsm : shape.length ≤ 100) (hf : ∀ f ∈ shape, 0 ≤ f ∧ f < 14)
    (hv : ∀ f : Nat, 0 ≤ (itemV k ep tag o).getD f 0 ∧ (itemV k ep tag o).getD f 0 < 65536) (hc : o.ch < 256)
    (hok : ∀ f ∈ itemFieldsL, okV (itemV k ep tag o) shape 0 f = true)
    (hK : ∀ h' b' n pc, Sli eU8 (some ⟨b', 0, none⟩) n n (layB (itemV k ep tag o) shape) pc → Own G h' (pc :: L) → K (.tuple #[.slice (some ⟨b', 0, none⟩) n n, .nilIface]) h') :
    CallF Tryz.prog G 70 #[.agg #[.int .i64 k, .int .i64 ep, .int .i64 tag, .int .i64 o.kind, .int .i64 o.pos, .int .u8 o.ch, .int .i64 o.client, .int .i64 o.seq]] K Kp h := by
  refine S70_ok ?_
  obtain ⟨p, l, c, hcell, hs⟩ := itemShape hw hsh
  have hch : 0 ≤ o.ch ∧ o.ch < 256 := ⟨(hv 11).1, hc⟩
  unfold S70
  refine newK.go hO ?_
  clear hO; intro r9 h hO
  refine LdI.go hO (by with_unfolding_all rfl) (If.f (by simp; omega) (LdI.g hO ?_))
  unfold S70_k1
  refine If.f (by simp; omega) ?_
  iterate 9 (refine LdI.g hO ?_)
  refine Rq.go (by omega) (LdSl.i (by rw [Int.toNat_natCast]; exact hcell _ _ hO) ⟨?_, ?_⟩)
  · refine wireFlat hO hch fun h hO => ?_
    refine ⟨_, _, _, _, _, _, _, _, _, _, _, _, _, _, rfl, by rw [Int.toNat_natCast]; exact hcell _ _ hO, cell_go hO (by with_unfolding_all rfl) (newK.go hO ?_)⟩
    clear hO; intro r41 h hO
    refine ⟨by rw [Int.toNat_natCast]; exact hcell _ _ hO, ?_⟩
    (repeat (first | refine NN.go ?_ | refine LdI.g hO ?_ | refine cell_g hO ?_ | refine Rq.go (by omega) ?_ | (refine st1.g hO ?_; clear hO; intro h hO; dsimp only [ad, List.set] at hO)))
    refine encItemLoop (v := itemV k ep tag o) hO hw (Rdl.lit rfl rfl) hs hsm hf hv hok fun h' b' n pc hsl hO => ?_
    exact hK _ _ _ _ hsl (hO.mem (List.Sublist.cons_cons _ (List.Sublist.cons _ (List.Sublist.cons _ (List.Sublist.refl _)))))
  · refine newK.go hO ?_
    clear hO; intro r41 h hO
    refine ⟨by rw [Int.toNat_natCast]; exact hcell _ _ hO, ?_⟩
    (repeat (first | refine NN.go ?_ | refine LdI.g hO ?_ | refine cell_g hO ?_ | refine Rq.go (by omega) ?_ | (refine st1.g hO ?_; clear hO; intro h hO; dsimp only [ad, List.set] at hO)))
    refine wireFlat hO hch fun h hO => ?_
    refine ⟨_, _, _, _, _, _, _, _, _, _, _, _, _, _, rfl, by rw [Int.toNat_natCast]; exact hcell _ _ hO, ?_⟩
    (repeat (first | refine NN.go ?_ | refine LdI.g hO ?_ | refine cell_g hO ?_ | refine Rq.go (by omega) ?_ | (refine st1.g hO ?_; clear hO; intro h hO; dsimp only [ad, List.set] at hO)))
    refine encItemLoop (v := itemV k ep tag o) hO hw (Rdl.lit rfl rfl) hs hsm hf hv hok fun h' b' n pc hsl hO => ?_
    exact hK _ _ _ _ hsl (hO.mem (List.Sublist.cons_cons _ (List.Sublist.cons _ (List.Sublist.cons _ (List.Sublist.refl _)))))
end Go.Sl
set_option maxRecDepth 100000
namespace Go.Sl
open Go Go.Proofs
theorem wireDecodeItem {G h : Heap} {L : List Heap} {pb : Option Addr} {l c : Nat} {k : Nat} {ep tag : Int} {o : Op} {shape : List Int} {K : Value → Heap → Prop} {Kp : PK} (hO : Own G h L) (hw : Gw G) (hk : 1 ≤ k ∧ k ≤ 2) (hsh : itemShapesL[k]? = some shape) (hsm : shape.length ≤ 100) (hf : ∀ f ∈ shape, 0 ≤ f ∧ f < 14)
    (hv : ∀ f : Nat, 0 ≤ (itemV k ep tag o).getD f 0 ∧ (itemV k ep tag o).getD f 0 < 65536) (hv1 : ∀ f : Nat, sizeL.getD f 0 = 1 → (itemV k ep tag o).getD f 0 < 256)
    (hm : ∀ j x, shape[j]? = some x → mayB x (pv (itemV k ep tag o) shape (j + 1)) 0 = true) (hpv : pv (itemV k ep tag o) shape shape.length = itemV k ep tag o) (hlong : (longS shape : Int) = (l : Int)) (hlsm : l ≤ 1000)
    (hr : Rdl L eU8 pb l (layB (itemV k ep tag o) shape))
    (hK : ∀ h', Own G h' L → K (.tuple #[.agg #[.int .i64 k, .int .i64 ep, .int .i64 tag, .int .i64 o.kind, .int .i64 o.pos, .int .u8 o.ch, .int .i64 o.client, .int .i64 o.seq], .nilIface]) h') :
    CallF Tryz.prog G 130 #[.slice pb l c] K Kp h := by
  refine S130_ok ?_
  obtain ⟨p, ls, cs, hcell, hs⟩ := itemShape hw hsh
  have hch : 0 ≤ o.ch ∧ o.ch < 256 := ⟨(hv 11).1, hv1 11 (by decide)⟩
  have hl := hr.len hO
  have hlpos : 0 < l := by rw [hl]; simp [layB]
  have hk0 : (byt (k : Int)).toNat = k := by rw [byt_mod]; omega
  have e8 : IntKind.u8.wrap o.ch = o.ch := by
    have : IntKind.u8.wrap o.ch = o.ch % 256 := by simp [IntKind.wrap, IntKind.signed, IntKind.bits]
    rw [this]; omega
  unfold S130
  refine newK.go hO ?_
  clear hO; intro r4 h hO
  refine If.f (by simp; omega) (Rq.go (by omega) ?_)
  obtain ⟨x, hx, hn⟩ := (hr.cons _).at eU8_ok hO (i := 0) (by omega) (by omega)
  refine hn _ fun a _ hc => ?_
  have hx0 : x = byt (k : Int) := by
    have : (layB (itemV k ep tag o) shape)[0]? = some (byt (k : Int)) := rfl
    rw [show (0 : Int).toNat = 0 from rfl, this] at hx
    cases hx; rfl
  subst hx0
  have hc0 := hc 0 _ rfl
  rw [show ((0 : Int).toNat * eU8.m) = 0 from rfl, show (a.add 0).add 0 = a by unfold Addr.add; simp] at hc0
  refine LdI.i hc0 ?_
  rw [hk0]
  have hwk : IntKind.i64.wrap (k : Int) = k := wrap_i64 (by omega) (by omega)
  rw [hwk]
  refine If.f (by simp; omega) ?_
  unfold S130_k1
  rw [hwk]
  refine If.f (by simp; omega) (Rq.go (by omega) (LdSl.i (by rw [Int.toNat_natCast]; exact hcell _ _ hO) ?_))
  refine wireLong hO hw hs hsm hf ⟨_, rfl, If.f (by rw [hlong]; simp) (Rq.go (by omega) (LdSl.i (by rw [Int.toNat_natCast]; exact hcell _ _ hO) ?_))⟩
  refine wirePick (v := itemV k ep tag o) hO hw (hr.cons _) hs hsm hf hlsm hv hv1 hm fun h hO => ?_
  rw [hpv]
  refine ⟨_, _, _, _, _, _, _, _, _, _, _, _, _, _, _, rfl, newK.go hO ?_⟩
  clear hO; intro r61 h hO
  iterate 14 (refine st1.g hO ?_; clear hO; intro h hO; dsimp only [ad, List.set] at hO)
  refine Rq.go (.inl rfl) (If.f rfl ?_)
  (repeat (first | refine NN.go ?_ | refine LdI.g hO ?_ | refine cell_g hO ?_ | refine Rq.go (by omega) ?_ | (refine st1.g hO ?_; clear hO; intro h hO; dsimp only [ad, List.set] at hO)))
  refine wireOp (v := itemV k ep tag o) hO (Rdl.lit rfl rfl) hch fun h hO => ?_
  refine ⟨_, _, _, _, _, rfl, ?_⟩
  (repeat (first | refine NN.go ?_ | refine LdI.g hO ?_ | refine cell_g hO ?_ | refine Rq.go (by omega) ?_ | (refine st1.g hO ?_; clear hO; intro h hO; dsimp only [ad, List.set] at hO)))
  exact hK _ hO.drop1.drop1
end Go.Sl
set_option maxRecDepth 100000
namespace Go.Sl
open Go Go.Proofs
theorem encLoop {G h : Heap} {L : List Heap} {b : Nat} {v shape : List Int} {p : Option Addr} {l c : Nat} {m : Int} {K : Value → Heap → Prop} {Kp : PK} (hO : Own G h L) (hg : Gl G) (hw : Gw G) (hr : Rdl L eI (some ⟨b, 0, none⟩) 14 v) (hs : RdA G eI p l shape) (hsm : shape.length ≤ 100) (hf : ∀ f ∈ shape, 0 ≤ f ∧ f < 14) (hv : ∀ f : Nat, 0 ≤ v.getD f 0 ∧ v.getD f 0 < 65536)
    (hok : ∀ f : Nat, 1 ≤ f → f < 14 → okV v shape m f = true)
    (hK : ∀ h' b' n pc, n = (layB v shape ++ sum4 (crc (layB v shape))).length → Sli eU8 (some ⟨b', 0, none⟩) n n (layB v shape ++ sum4 (crc (layB v shape))) pc → Own G h' (pc :: L) → K (.tuple #[.slice (some ⟨b', 0, none⟩) n n, .nilIface]) h') :
    S95_k3 G K Kp p l c ⟨b, 0, none⟩ m h := by
  unfold S95_k3
  refine LoopS.go (fun vs h' => h' = h ∧ ∃ n : Nat, 1 ≤ n ∧ n ≤ 14 ∧ vs = [.int .i64 n]) (fun vs _ => match vs with | [.int _ n] => (14 - n).toNat | _ => 0) ⟨rfl, 1, by omega, by omega, rfl⟩ ?_
  rintro jv vs h' ⟨rfl, n, hn1, hn, rfl⟩
  unfold S95_l8
  refine ⟨_, rfl, If.dec (fun hlt => ?_) (fun hlt => ?_)⟩
  · have hof := hok n hn1 (by omega)
    have hfr : (0 : Int) ≤ n ∧ (n : Int) < 14 := ⟨by omega, hlt⟩
    have hfin : S95_k4 G K Kp n (fun vs' h'' => ((h'' = h' ∧ ∃ n : Nat, 1 ≤ n ∧ n ≤ 14 ∧ vs' = [.int .i64 n]) ∧ (match vs' with | [.int _ n] => (14 - n).toNat | _ => 0) < (match [Value.int .i64 (n : Int)] with | [.int _ n] => (14 - n).toNat | _ => 0))) false h' := by
      unfold S95_k4
      exact If.f rfl (Rng.go (by omega) ⟨⟨rfl, n + 1, by omega, by omega, rfl⟩, by simp only; omega⟩)
    refine wireNamed hO hs hsm ⟨_, rfl, If.mk (fun e => ?_) (fun e => ?_)⟩
    · unfold okV at hof
      rw [e, cond_true] at hof
      refine wireMay hO hr hfr ⟨_, rfl, If.f (by rw [hof]; rfl) (wireNamed hO hs hsm ⟨_, rfl, If.f (by rw [e]; rfl) hfin⟩)⟩
    · unfold okV at hof
      rw [e, cond_false] at hof
      refine wireNamed hO hs hsm ⟨_, rfl, If.t (by rw [e]; rfl) (Rq.go hfr (LdI.i (n := v.getD n 0) ?_ ?_))⟩
      · have := vget hO hr (i := n) (by omega)
        rw [add_mk, Nat.mul_one, Int.toNat_natCast]; exact this
      · have : (v.getD n 0 != 0) = false := by
          have h0 : v.getD n 0 = 0 := by simpa using hof
          rw [h0]; rfl
        rw [this]; exact hfin
  · unfold S95_k5
    refine wireLay hO hw hr hs hsm hf hv fun h' b' n pc hsl hO => ?_
    refine ⟨_, _, _, rfl, ?_⟩
    have hn : n = (layB v shape).length := hsl.len
    have hll : (layB v shape).length ≤ 1 + 2 * shape.length := by
      have : ∀ s : List Int, (s.flatMap (layF v)).length ≤ 2 * s.length := by
        intro s
        induction s with
        | nil => simp
        | cons f s ih => have := layF_len v f; simp only [List.flatMap_cons, List.length_append, List.length_cons]; omega
      have := this shape
      simp only [layB, List.length_cons]; omega
    refine octSeal hg hO (hsl.rdl (by simp)) (by omega) fun h' b2 pc2 hs2 hO => ?_
    refine ⟨_, _, _, rfl, hK _ _ _ _ (by rw [List.length_append, ← hn]; rfl) hs2 hO.drop2⟩
theorem wireEncode {G h : Heap} {L : List Heap} {k : Nat} {m1 m2 m3 m4 m5 m6 m7 m8 m9 m10 m11 m12 m13 : Int} {v shape : List Int} {K : Value → Heap → Prop} {Kp : PK} (hO : Own G h L) (hg : Gl G) (hw : Gw G) (hV : v = [(k : Int), m1, m2, m3, m4, m5, m6, m7, m8, m9, m10, m11, m12, m13]) (hk : 1 ≤ k ∧ k ≤ 6) (hk2 : k ≠ 2) (hsh : shapesL[k]? = some shape) (hsm : shape.length ≤ 100) (hf : ∀ f ∈ shape, 0 ≤ f ∧ f < 14)
    (hv : ∀ f : Nat, 0 ≤ v.getD f 0 ∧ v.getD f 0 < 65536) (hc : m11 < 256)
    (hok : ∀ f : Nat, 1 ≤ f → f < 14 → okV v shape 0 f = true)
    (hK : ∀ h' b' n pc, n = (layB v shape ++ sum4 (crc (layB v shape))).length → Sli eU8 (some ⟨b', 0, none⟩) n n (layB v shape ++ sum4 (crc (layB v shape))) pc → Own G h' (pc :: L) → K (.tuple #[.slice (some ⟨b', 0, none⟩) n n, .nilIface]) h') :
    CallF Tryz.prog G 95 #[.agg #[.int .i64 k, .int .i64 m1, .int .i64 m2, .int .i64 m3, .int .i64 m4, .int .i64 m5, .int .i64 m6, .int .i64 m7, .int .i64 m8, .int .i64 m9, .int .i64 m10, .int .u8 m11, .int .i64 m12, .int .i64 m13]] K Kp h := by
  refine S95_ok ?_
  obtain ⟨p, l, c, hcell, hs⟩ := msgShape hw hsh
  have hch : 0 ≤ m11 ∧ m11 < 256 := ⟨by have := (hv 11).1; rw [hV] at this; exact this, hc⟩
  unfold S95
  refine newK.go hO ?_
  clear hO; intro r9 h hO
  refine LdI.go hO (by with_unfolding_all rfl) (If.f (by simp; omega) (LdI.g hO ?_))
  unfold S95_k1
  refine If.f (by simp; omega) ?_
  iterate 15 (refine LdI.g hO ?_)
  refine Rq.go (by omega) (LdSl.i (by rw [Int.toNat_natCast]; exact hcell _ _ hO) ⟨?_, ?_⟩)
  · refine wireFlat hO hch fun h hO => ?_
    refine ⟨_, _, _, _, _, _, _, _, _, _, _, _, _, _, rfl, by rw [Int.toNat_natCast]; exact hcell _ _ hO, cell_go hO (by with_unfolding_all rfl) (newK.go hO ?_)⟩
    clear hO; intro r41 h hO
    refine ⟨by rw [Int.toNat_natCast]; exact hcell _ _ hO, ?_⟩
    (repeat (first | refine NN.go ?_ | refine LdI.g hO ?_ | refine cell_g hO ?_ | refine Rq.go (by omega) ?_ | (refine st1.g hO ?_; clear hO; intro h hO; dsimp only [ad, List.set] at hO)))
    refine If.f (by simp; omega) ?_
    refine encLoop (v := v) hO hg hw (by rw [hV]; exact Rdl.lit rfl rfl) hs hsm hf hv hok fun h' b' n pc hn hsl hO => ?_
    exact hK _ _ _ _ hn hsl (hO.mem (List.Sublist.cons_cons _ (List.Sublist.cons _ (List.Sublist.cons _ (List.Sublist.refl _)))))
  · refine newK.go hO ?_
    clear hO; intro r41 h hO
    refine ⟨by rw [Int.toNat_natCast]; exact hcell _ _ hO, ?_⟩
    (repeat (first | refine NN.go ?_ | refine LdI.g hO ?_ | refine cell_g hO ?_ | refine Rq.go (by omega) ?_ | (refine st1.g hO ?_; clear hO; intro h hO; dsimp only [ad, List.set] at hO)))
    refine wireFlat hO hch fun h hO => ?_
    refine ⟨_, _, _, _, _, _, _, _, _, _, _, _, _, _, rfl, by rw [Int.toNat_natCast]; exact hcell _ _ hO, ?_⟩
    (repeat (first | refine NN.go ?_ | refine LdI.g hO ?_ | refine cell_g hO ?_ | refine Rq.go (by omega) ?_ | (refine st1.g hO ?_; clear hO; intro h hO; dsimp only [ad, List.set] at hO)))
    refine If.f (by simp; omega) ?_
    refine encLoop (v := v) hO hg hw (by rw [hV]; exact Rdl.lit rfl rfl) hs hsm hf hv hok fun h' b' n pc hn hsl hO => ?_
    exact hK _ _ _ _ hn hsl (hO.mem (List.Sublist.cons_cons _ (List.Sublist.cons _ (List.Sublist.cons _ (List.Sublist.refl _)))))
end Go.Sl
set_option maxRecDepth 100000
namespace Go.Sl
open Go Go.Proofs
theorem wireBody {G h : Heap} {L : List Heap} {b o l c : Nat} {bs : List UInt8} {K : Value → Heap → Prop} {Kp : PK} (hg : Gl G) (hO : Own G h L) (hr : Rdl L eU8 (some ⟨b, o, none⟩) l (bs ++ sum4 (crc bs))) (hc : l ≤ c) (hsm : l ≤ 64) (hpos : 0 < bs.length)
    (hK : ∀ h' b pc, Sli eU8 (some ⟨b, 0, none⟩) bs.length bs.length bs pc → Own G h' (pc :: L) → K (.tuple #[.slice (some ⟨b, 0, none⟩) bs.length bs.length, .nilIface]) h') : CallF Tryz.prog G 167 #[.slice (some ⟨b, o, none⟩) l c] K Kp h := by
  refine S167_ok ?_
  unfold S167
  refine If.dec (fun _ => by omega) fun _ => ?_
  refine octOpen hg hO hr hc (by omega) fun h b2 pc hs hO => ?_
  refine ⟨_, _, _, _, rfl, newK.go hO ?_⟩
  clear hO; intro r h hO
  refine errAsNil ⟨_, rfl, If.f rfl (If.f (by simp only [beq_eq_false_iff_ne, ne_eq]; omega) ?_)⟩
  exact hK _ _ _ hs hO.drop1
theorem wireDecode {G h : Heap} {L : List Heap} {b ob l c : Nat} {k : Nat} {m1 m2 m3 m4 m5 m6 m7 m8 m9 m10 m11 m12 m13 : Int} {v shape : List Int} {K : Value → Heap → Prop} {Kp : PK} (hO : Own G h L) (hg : Gl G) (hw : Gw G) (hV : v = [(k : Int), m1, m2, m3, m4, m5, m6, m7, m8, m9, m10, m11, m12, m13]) (hk : 1 ≤ k ∧ k ≤ 6) (hk2 : k ≠ 2) (hsh : shapesL[k]? = some shape) (hsm : shape.length ≤ 100) (hf : ∀ f ∈ shape, 0 ≤ f ∧ f < 14)
    (hv : ∀ f : Nat, 0 ≤ v.getD f 0 ∧ v.getD f 0 < 65536) (hv1 : ∀ f : Nat, sizeL.getD f 0 = 1 → v.getD f 0 < 256)
    (hm : ∀ j x, shape[j]? = some x → mayB x (pv v shape (j + 1)) 0 = true) (hpv : pv v shape shape.length = v) (hlong : longS shape = ((layB v shape).length : Int)) (hl64 : l ≤ 64) (hc : l ≤ c)
    (hr : Rdl L eU8 (some ⟨b, ob, none⟩) l (layB v shape ++ sum4 (crc (layB v shape))))
    (hK : ∀ h', Own G h' L → K (.tuple #[.agg #[.int .i64 k, .int .i64 m1, .int .i64 m2, .int .i64 m3, .int .i64 m4, .int .i64 m5, .int .i64 m6, .int .i64 m7, .int .i64 m8, .int .i64 m9, .int .i64 m10, .int .u8 m11, .int .i64 m12, .int .i64 m13], .nilIface]) h') :
    CallF Tryz.prog G 134 #[.slice (some ⟨b, ob, none⟩) l c] K Kp h := by
  refine S134_ok ?_
  obtain ⟨p, ls, cs, hcell, hs⟩ := msgShape hw hsh
  have hch : 0 ≤ v.getD 11 0 ∧ v.getD 11 0 < 256 := ⟨(hv 11).1, hv1 11 (by decide)⟩
  have hl := hr.len hO
  have hlpos : 0 < (layB v shape).length := by simp [layB]
  have hk0 : (byt (k : Int)).toNat = k := by rw [byt_mod]; omega
  have hwk : IntKind.i64.wrap (k : Int) = k := wrap_i64 (by omega) (by omega)
  have hll : (layB v shape).length ≤ 64 := by rw [List.length_append] at hl; omega
  unfold S134
  refine newK.go hO ?_
  clear hO; intro r4 h hO
  refine wireBody hg hO (hr.cons _) hc hl64 hlpos fun h b2 pc hsl hO => ?_
  refine ⟨_, _, _, _, rfl, Rq.go (.inl rfl) (If.f rfl (Rq.go (by omega) ?_))⟩
  obtain ⟨x, hx, hn⟩ := (hsl.rs _ List.mem_cons_self).at eU8_ok hO (i := 0) (by omega) (by omega)
  refine hn _ fun a _ hc => ?_
  have hx0 : x = byt (k : Int) := by
    have : (layB v shape)[0]? = some (byt (k : Int)) := by rw [hV]; rfl
    rw [show (0 : Int).toNat = 0 from rfl, this] at hx
    cases hx; rfl
  subst hx0
  have hc0 := hc 0 _ rfl
  rw [show ((0 : Int).toNat * eU8.m) = 0 from rfl, show (a.add 0).add 0 = a by unfold Addr.add; simp] at hc0
  refine LdI.i hc0 ?_
  rw [hk0, hwk]
  refine If.f (by simp; omega) ?_
  unfold S134_k1
  rw [hwk]
  refine If.f (by simp; omega) (Rq.go (by omega) (LdSl.i (by rw [Int.toNat_natCast]; exact hcell _ _ hO) ?_))
  refine wireLong hO hw hs hsm hf ⟨_, rfl, If.f (by rw [hlong]; simp) (Rq.go (by omega) (LdSl.i (by rw [Int.toNat_natCast]; exact hcell _ _ hO) ?_))⟩
  rw [show ((k : Int) == 2) = false by simp; omega]
  refine wirePick (v := v) (own := false) hO hw (hsl.rs _ List.mem_cons_self) hs hsm hf (by omega) hv hv1 hm fun h hO => ?_
  rw [hpv]
  rw [hV] at hch ⊢
  refine ⟨_, _, _, _, _, _, _, _, _, _, _, _, _, _, _, rfl, newK.go hO ?_⟩
  clear hO; intro r61 h hO
  iterate 14 (refine st1.g hO ?_; clear hO; intro h hO; dsimp only [ad, List.set] at hO)
  refine Rq.go (.inl rfl) (If.f rfl ?_)
  (repeat (first | refine NN.go ?_ | refine LdI.g hO ?_ | refine cell_g hO ?_ | refine Rq.go (by omega) ?_ | (refine st1.g hO ?_; clear hO; intro h hO; dsimp only [ad, List.set] at hO)))
  refine wireOp (v := [(k : Int), m1, m2, m3, m4, m5, m6, m7, m8, m9, m10, m11, m12, m13]) hO (Rdl.lit rfl rfl) hch fun h hO => ?_
  refine ⟨_, _, _, _, _, rfl, ?_⟩
  (repeat (first | refine NN.go ?_ | refine LdI.g hO ?_ | refine cell_g hO ?_ | refine Rq.go (by omega) ?_ | (refine st1.g hO ?_; clear hO; intro h hO; dsimp only [ad, List.set] at hO)))
  exact hK _ hO.drop1.drop1.drop1
end Go.Sl
set_option maxRecDepth 100000
namespace Go.Sl
open Go Go.Proofs
theorem walAll {G h : Heap} {L R : List Heap} {p d : Option Addr} {pls : List (List UInt8)} {n : Nat} {c : Heap} {K : Value → Heap → Prop} {Kp : PK} (hO : Own G h L) [t : Take L c R] (hq : LogP p d pls n c) (hsm : pls.length ≤ 1000000) (h64 : ∀ pl ∈ pls, pl.length ≤ 64)
    (hK : ∀ h' p k c' hs ps pcs, Sli eSl p k c' hs ps → Pls hs pls pcs → Own G h' (ps :: (pcs ++ L)) → K (.slice p k c') h') : CallF Tryz.prog G 64 #[.pointer p] K Kp h := by
  refine S64_ok ?_
  obtain ⟨cq, cd, hq, hd, hj⟩ := hq
  obtain ⟨b2, q, l1, k1, hs, ps, q2, l2, k2, pe, pcs, rfl, hs1, hpls, hs2, hj2⟩ := hq
  have hop : ∀ (h : Heap) (M : List Heap), Own G h (M ++ L) → Own G h (single b2 (.cells #[.pointer d, .slice q l1 k1, .slice q2 l2 k2] 171 (0, 0)) :: ps :: pe :: (pcs ++ (cd :: (M ++ R)))) := fun h M hO => by
    have h1 : Own G h (c :: (M ++ R)) := hO.perm (by (refine perm_cnt fun a => ?_; have ht := cnt_perm t.perm a; simp only [cnt_app, List.append_eq, cnt_cons, cnt_nil] at ht ⊢; omega))
    exact (h1.openJ hj).openJ hj2
  have e1 := hs1.len
  have e2 := hpls.l1
  have e3 := hpls.l2
  unfold S64
  refine NN.go (LdSl.go (hop h [] hO) (by with_unfolding_all rfl) ?_)
  refine LoopS.go (fun vs h' => ∃ (i : Nat) (p' : Option Addr) (k c' : Nat) (hs' : List (Option Addr × Nat × Nat)) (ps' : Heap) (pcs' : List Heap), i ≤ pls.length ∧ vs = [.slice p' k c', .int .i64 i] ∧ Sli eSl p' k c' hs' ps' ∧ Pls hs' (pls.take i) pcs' ∧ Own G h' (ps' :: (pcs' ++ L))) (fun vs _ => match vs with | [_, .int _ n] => (pls.length - n).toNat | _ => 0) ⟨0, none, 0, 0, [], emp, [], by omega, rfl, .no, by simpa using Pls.nil, hO.addEmp0⟩ ?_
  rintro jv vs h ⟨i, p', k, c', hs', ps', pcs', hi, rfl, hsl, hpls', hO⟩
  have hO2 := hop h (ps' :: pcs') hO
  have ek := hsl.len
  have ek2 := hpls'.l1
  rw [List.length_take] at ek2
  unfold S64_l3
  refine ⟨_, _, _, _, rfl, If.dec (fun hlt => ?_) (fun hlt => ?_)⟩
  · have hip : i < pls.length := by omega
    refine Rq.go ⟨by omega, hlt⟩ ?_
    obtain ⟨x, hx, hn⟩ := (hs1.rs _ (List.mem_cons_of_mem _ List.mem_cons_self)).at eSl_ok hO2 (i := (i : Int)) (by omega) hlt
    refine hn _ fun a _ hc => ?_
    obtain ⟨xa, xl, xc⟩ := x
    refine LdSl.i (hc 0 _ rfl) ?_
    have hx' : hs[i]? = some (xa, xl, xc) := by simpa using hx
    obtain ⟨hrs, hcap⟩ := hpls.rd i _ pls[i] pcs[i] hx' (List.getElem?_eq_getElem hip) (List.getElem?_eq_getElem (by omega))
    have hrd : RdS G h eU8 xa xl pls[i] := hrs _ (List.mem_cons_of_mem _ (List.mem_cons_of_mem _ (List.mem_cons_of_mem _ (List.mem_append_left _ (List.getElem_mem _))))) G h hO2
    have hxl : xl = pls[i].length := hrd.1
    have hx64 := h64 _ (List.getElem_mem hip)
    refine append_go tU8 tU8.ud (hO.addEmp0) (.refl _) Sli.no hrd (by omega) fun h pa' ca' pca' hs3 hO => ?_
    refine ⟨_, _, _, rfl, newK.go hO ?_⟩
    clear hO2 hO; intro r h hO
    refine append1 tSl hO hsl (y := (pa', 0 + xl, ca')) rfl (by omega) fun h p2 c2 ps2 hsl2 hO => ?_
    refine ⟨_, _, _, rfl, Rng.go (by omega) ⟨⟨i + 1, _, _, _, _, _, pcs' ++ [pca'], by omega, rfl, hsl2, ?_, ?_⟩, ?_⟩⟩
    · rw [List.take_add_one, List.getElem?_eq_getElem hip]
      refine hpls'.snoc ?_ hs3.cap
      simpa using hs3.rs
    · exact hO.perm (by (refine perm_cnt fun a => ?_; simp only [cnt_app, List.append_eq, cnt_cons, cnt_nil]; omega))
    · simp only; omega
  · have hip : i = pls.length := by omega
    subst hip
    rw [List.take_length] at hpls'
    unfold S64_k1
    exact hK _ _ _ _ _ _ _ hsl hpls' hO
end Go.Sl
set_option maxRecDepth 100000
namespace Go.Sl
open Go Go.Proofs
theorem docWithin {G h : Heap} {n lo hi : Int} {K : Value → Heap → Prop} {Kp : PK} (hK : K (.bool (decide (lo ≤ n) && decide (n ≤ hi))) h) : CallF Tryz.prog G 145 #[.int .i64 n, .int .i64 lo, .int .i64 hi] K Kp h := by
  refine S145_ok ?_
  unfold S145 S145_k1
  refine If.dec (fun e => ?_) (fun e => ?_)
  · rw [decide_eq_true e, Bool.true_and] at hK; exact hK
  · rw [decide_eq_false e, Bool.false_and] at hK; exact hK
def inR (n lo hi : Int) : Bool := decide (lo ≤ n) && decide (n ≤ hi)
def validE (o : Op) : Int :=
  bif !(inR o.kind 0 2) then 40 else bif !(inR o.client 1 64) then 41 else bif !(inR o.seq 1 64) then 41
  else bif (bif o.kind == 1 then !(inR o.ch 32 126) else o.ch != 0) then 42
  else bif !(inR o.pos 0 (bif o.kind == 0 then 0 else 4095)) then 43 else 0
theorem docValid {G h : Heap} {L : List Heap} {o : Op} {K : Value → Heap → Prop} {Kp : PK} (hO : Own G h L) (hc : 0 ≤ o.ch ∧ o.ch < 256)
    (hK : ∀ h', Own G h' L → K (.int .i64 (validE o)) h') : CallF Tryz.prog G 106 #[opV o] K Kp h := by
  refine S106_ok ?_
  unfold S106
  refine newK.go hO ?_
  clear hO; intro r h hO
  have hO' := hO.drop1
  have hw : IntKind.i64.wrap o.ch = o.ch := wrap_i64 (by omega) (by omega)
  refine LdI.go hO (by with_unfolding_all rfl) (docWithin ⟨_, rfl, ?_⟩)
  have hK := hK h hO'
  unfold validE at hK
  change K (.int .i64 (bif !(inR o.kind 0 2) then _ else _)) h at hK
  refine If.mk (fun e => ?_) (fun e => ?_)
  · have e' : (!(inR o.kind 0 2)) = true := e
    rw [e', cond_true] at hK; exact hK
  have e' : (!(inR o.kind 0 2)) = false := e
  rw [e', cond_false] at hK
  refine LdI.go hO (by with_unfolding_all rfl) (docWithin ⟨_, rfl, If.mk (fun e => ?_) (fun e => ?_)⟩)
  · have e' : (!(inR o.client 1 64)) = true := e
    rw [e', cond_true] at hK
    unfold S106_k1
    exact If.t rfl hK
  have e' : (!(inR o.client 1 64)) = false := e
  rw [e', cond_false] at hK
  refine LdI.go hO (by with_unfolding_all rfl) (docWithin ⟨_, rfl, ?_⟩)
  unfold S106_k1
  refine If.mk (fun e => ?_) (fun e => ?_)
  · have e' : (!(inR o.seq 1 64)) = true := e
    rw [e', cond_true] at hK; exact hK
  have e' : (!(inR o.seq 1 64)) = false := e
  rw [e', cond_false] at hK
  have fin : (bif (bif o.kind == 1 then !(inR o.ch 32 126) else o.ch != 0) then (42 : Int) else bif !(inR o.pos 0 (bif o.kind == 0 then 0 else 4095)) then 43 else 0) = (bif !(inR o.pos 0 (bif o.kind == 0 then 0 else 4095)) then 43 else 0) → S106_k2 G K Kp r h := fun e => by
    rw [e] at hK
    unfold S106_k2
    refine LdI.g hO ?_
    have t3 : ∀ z : Int, K (.int .i64 (bif !(inR o.pos 0 z) then 43 else 0)) h → S106_k3 G K Kp r z h := fun z hz => by
      unfold S106_k3
      refine LdI.go hO (by with_unfolding_all rfl) (docWithin ⟨_, rfl, If.mk (fun e => ?_) (fun e => ?_)⟩)
      · have e' : (!(inR o.pos 0 z)) = true := e
        rw [e', cond_true] at hz; exact hz
      · have e' : (!(inR o.pos 0 z)) = false := e
        rw [e', cond_false] at hz; exact hz
    refine If.mk (fun e => ?_) (fun e => ?_)
    · rw [e, cond_true] at hK; exact t3 0 hK
    · rw [e, cond_false] at hK; exact t3 4095 hK
  refine LdI.go hO (by with_unfolding_all rfl) (If.mk (fun e1 => ?_) (fun e1 => ?_))
  · refine LdI.g hO ?_
    rw [hw]
    refine docWithin ⟨_, rfl, If.mk (fun e => ?_) (fun e => ?_)⟩
    · have e' : (!(inR o.ch 32 126)) = true := e
      rw [e1, cond_true, e', cond_true] at hK; exact hK
    · have e' : (!(inR o.ch 32 126)) = false := e
      exact fin (by rw [e1, cond_true, e', cond_false])
  · refine LdI.go hO (by with_unfolding_all rfl) (If.mk (fun e => ?_) (fun e => ?_))
    · rw [e1, cond_false, e, cond_true] at hK; exact hK
    · exact fin (by rw [e1, cond_false, e, cond_false])
end Go.Sl
set_option maxRecDepth 100000
namespace Go.Sl
open Go Go.Proofs
def fitsE (n : Int) (o : Op) : Int :=
  bif validE o != 0 then validE o else bif !(inR n 0 4096) || (o.kind == 1 && n == 4096) then 44
  else bif (o.kind == 1 && decide (o.pos > n)) || (o.kind == 2 && decide (o.pos ≥ n)) then 43 else 0
theorem docFits {G h : Heap} {L : List Heap} {n : Int} {o : Op} {K : Value → Heap → Prop} {Kp : PK} (hO : Own G h L) (hc : 0 ≤ o.ch ∧ o.ch < 256)
    (hK : ∀ h', Own G h' L → K (.int .i64 (fitsE n o)) h') : CallF Tryz.prog G 109 #[.int .i64 n, opV o] K Kp h := by
  refine S109_ok ?_
  unfold S109
  refine newK.go hO ?_
  clear hO; intro r h hO
  (repeat (first | refine NN.go ?_ | refine LdI.g hO ?_ | refine cell_g hO ?_ | refine Rq.go (by omega) ?_ | (refine st1.g hO ?_; clear hO; intro h hO; dsimp only [ad, List.set] at hO)))
  refine docValid (o := o) hO hc fun h hO => ⟨_, rfl, ?_⟩
  have hK := hK h hO.drop1
  unfold fitsE at hK
  have k2 : ∀ b, K (.int .i64 (bif b then 43 else 0)) h → S109_k2 G K Kp b h := fun b hb => by
    unfold S109_k2
    cases b <;> exact hb
  refine If.mk (fun e => ?_) (fun e => ?_)
  · rw [e, cond_true] at hK; exact hK
  rw [e, cond_false] at hK
  have k1 : ∀ b, b = (!(inR n 0 4096) || (o.kind == 1 && n == 4096)) → S109_k1 G K Kp r n b h := fun b hb => by
    rw [← hb] at hK
    unfold S109_k1
    cases b with
    | true => exact If.t rfl hK
    | false =>
      rw [cond_false] at hK
      refine If.f rfl (LdI.go hO (by with_unfolding_all rfl) (If.mk (fun e1 => ?_) (fun e1 => ?_)))
      · rw [e1, Bool.true_and] at hK
        refine LdI.go hO (by with_unfolding_all rfl) (If.mk (fun e2 => ?_) (fun e2 => ?_))
        · rw [e2, Bool.true_or] at hK; exact k2 _ hK
        · rw [e2, Bool.false_or] at hK
          refine LdI.go hO (by with_unfolding_all rfl) (If.mk (fun e3 => ?_) (fun e3 => ?_))
          · rw [e3, Bool.true_and] at hK
            exact LdI.go hO (by with_unfolding_all rfl) (k2 _ hK)
          · rw [e3, Bool.false_and] at hK; exact k2 _ hK
      · rw [e1, Bool.false_and, Bool.false_or] at hK
        refine LdI.go hO (by with_unfolding_all rfl) (If.mk (fun e3 => ?_) (fun e3 => ?_))
        · rw [e3, Bool.true_and] at hK
          exact LdI.go hO (by with_unfolding_all rfl) (k2 _ hK)
        · rw [e3, Bool.false_and] at hK; exact k2 _ hK
  refine docWithin ⟨_, rfl, If.mk (fun e1 => ?_) (fun e1 => ?_)⟩
  · refine k1 true ?_
    have e1' : (!(inR n 0 4096)) = true := e1
    rw [e1', Bool.true_or]
  · have e1' : (!(inR n 0 4096)) = false := e1
    refine LdI.go hO (by with_unfolding_all rfl) (If.mk (fun e2 => ?_) (fun e2 => ?_))
    · refine k1 _ ?_
      rw [e1', Bool.false_or, e2, Bool.true_and]
    · refine k1 false ?_
      rw [e1', Bool.false_or, e2, Bool.false_and]
end Go.Sl
