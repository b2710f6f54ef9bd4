/- P18.7: the changes turn the one text into the other. Part 5 of 12. -/
import Derived.Stop.Asserts
import Derived.Test.YtdcgpdgokaephaaGreatDoorRf4
set_option linter.unusedVariables false
set_option linter.unusedSimpArgs false
set_option linter.unusedSectionVars false
namespace Go.Sl
open Go Go.Proofs
set_option maxRecDepth 100000
variable {G h : Heap} {K : Value -> Heap -> Prop} {Kp : PK}
def S130_k1 (G : Heap) (K : Value -> Heap -> Prop) (Kp : PK) (v4 : Nat) (v16 : Int) (v2 : Nat) (v1 : Option Addr) (v3 : Nat) (v17 : Bool) (h : Heap) : Prop :=
 If v17 (CallF Tryz.prog G 43 #[(.int .i64 0), (.int .i64 61)] (λ v19 h => ∃ v18, v19 = v18 /\ st1 ⟨v4, 0, none⟩ (.int .i64 0) (λ h => st1 ⟨v4, 1, none⟩ (.int .i64 0) (λ h => st1 ⟨v4, 2, none⟩ (.int .i64 0) (λ h => st1 ⟨v4, 3, none⟩ (.int .i64 0) (λ h => st1 ⟨v4, 4, none⟩ (.int .i64 0) (λ h => st1 ⟨v4, 5, none⟩ (.int .u8 0) (λ h => st1 ⟨v4, 6, none⟩ (.int .i64 0) (λ h => st1 ⟨v4, 7, none⟩ (.int .i64 0) (λ h => (LdI G h .i64 ⟨v4, 0, none⟩ λ v20 => LdI G h .i64 ⟨v4, 1, none⟩ λ v21 => LdI G h .i64 ⟨v4, 2, none⟩ λ v22 => LdI G h .i64 ⟨v4, 3, none⟩ λ v23 => LdI G h .i64 ⟨v4, 4, none⟩ λ v24 => LdI G h .u8 ⟨v4, 5, none⟩ λ v25 => LdI G h .i64 ⟨v4, 6, none⟩ λ v26 => LdI G h .i64 ⟨v4, 7, none⟩ λ v27 => K (.tuple #[(.agg #[(.int .i64 v20), (.int .i64 v21), (.int .i64 v22), (.int .i64 v23), (.int .i64 v24), (.int .u8 v25), (.int .i64 v26), (.int .i64 v27)]), v18]) h)) h) h) h) h) h) h) h) h) Kp h) ((Rq ((0 : Int) <= (IntKind.wrap .i64 v16) /\ (IntKind.wrap .i64 v16) < ((3 : Nat) : Int)) (LdSl G h (Addr.add ⟨0, 0, none⟩ (Int.toNat (IntKind.wrap .i64 v16) * 1)) λ v28 v29 v30 => CallF Tryz.prog G 162 #[(.slice v28 v29 v30)] (λ v32 h => ∃ v31, v32 = (.int .i64 v31) /\ (If (((v2 : Nat) : Int) != v31) (CallF Tryz.prog G 43 #[(.int .i64 ((v2 : Nat) : Int)), (.int .i64 62)] (λ v34 h => ∃ v33, v34 = v33 /\ st1 ⟨v4, 0, none⟩ (.int .i64 0) (λ h => st1 ⟨v4, 1, none⟩ (.int .i64 0) (λ h => st1 ⟨v4, 2, none⟩ (.int .i64 0) (λ h => st1 ⟨v4, 3, none⟩ (.int .i64 0) (λ h => st1 ⟨v4, 4, none⟩ (.int .i64 0) (λ h => st1 ⟨v4, 5, none⟩ (.int .u8 0) (λ h => st1 ⟨v4, 6, none⟩ (.int .i64 0) (λ h => st1 ⟨v4, 7, none⟩ (.int .i64 0) (λ h => (LdI G h .i64 ⟨v4, 0, none⟩ λ v35 => LdI G h .i64 ⟨v4, 1, none⟩ λ v36 => LdI G h .i64 ⟨v4, 2, none⟩ λ v37 => LdI G h .i64 ⟨v4, 3, none⟩ λ v38 => LdI G h .i64 ⟨v4, 4, none⟩ λ v39 => LdI G h .u8 ⟨v4, 5, none⟩ λ v40 => LdI G h .i64 ⟨v4, 6, none⟩ λ v41 => LdI G h .i64 ⟨v4, 7, none⟩ λ v42 => K (.tuple #[(.agg #[(.int .i64 v35), (.int .i64 v36), (.int .i64 v37), (.int .i64 v38), (.int .i64 v39), (.int .u8 v40), (.int .i64 v41), (.int .i64 v42)]), v33]) h)) h) h) h) h) h) h) h) h) Kp h) ((Rq ((0 : Int) <= (IntKind.wrap .i64 v16) /\ (IntKind.wrap .i64 v16) < ((3 : Nat) : Int)) (LdSl G h (Addr.add ⟨0, 0, none⟩ (Int.toNat (IntKind.wrap .i64 v16) * 1)) λ v43 v44 v45 => CallF Tryz.prog G 163 #[(.slice v1 v2 v3), (.slice v43 v44 v45), (.bool false)] (λ v62 h => ∃ v46 v47 v48 v49 v50 v51 v52 v53 v54 v55 v56 v57 v58 v59 v60, v62 = (.tuple #[(.agg #[(.int .i64 v46), (.int .i64 v47), (.int .i64 v48), (.int .i64 v49), (.int .i64 v50), (.int .i64 v51), (.int .i64 v52), (.int .i64 v53), (.int .i64 v54), (.int .i64 v55), (.int .i64 v56), (.int .i64 v57), (.int .i64 v58), (.int .i64 v59)]), v60]) /\ newK G (.cells #[(.int .i64 0), (.int .i64 0), (.int .i64 0), (.int .i64 0), (.int .i64 0), (.int .i64 0), (.int .i64 0), (.int .i64 0), (.int .i64 0), (.int .i64 0), (.int .i64 0), (.int .i64 0), (.int .i64 0), (.int .i64 0)] 202) (λ v61 h => st1 ⟨v61, 0, none⟩ (.int .i64 v46) (λ h => st1 ⟨v61, 1, none⟩ (.int .i64 v47) (λ h => st1 ⟨v61, 2, none⟩ (.int .i64 v48) (λ h => st1 ⟨v61, 3, none⟩ (.int .i64 v49) (λ h => st1 ⟨v61, 4, none⟩ (.int .i64 v50) (λ h => st1 ⟨v61, 5, none⟩ (.int .i64 v51) (λ h => st1 ⟨v61, 6, none⟩ (.int .i64 v52) (λ h => st1 ⟨v61, 7, none⟩ (.int .i64 v53) (λ h => st1 ⟨v61, 8, none⟩ (.int .i64 v54) (λ h => st1 ⟨v61, 9, none⟩ (.int .i64 v55) (λ h => st1 ⟨v61, 10, none⟩ (.int .i64 v56) (λ h => st1 ⟨v61, 11, none⟩ (.int .i64 v57) (λ h => st1 ⟨v61, 12, none⟩ (.int .i64 v58) (λ h => st1 ⟨v61, 13, none⟩ (.int .i64 v59) (λ h => (Rq (IsI v60) ((If (!(isNilI v60)) (st1 ⟨v4, 0, none⟩ (.int .i64 0) (λ h => st1 ⟨v4, 1, none⟩ (.int .i64 0) (λ h => st1 ⟨v4, 2, none⟩ (.int .i64 0) (λ h => st1 ⟨v4, 3, none⟩ (.int .i64 0) (λ h => st1 ⟨v4, 4, none⟩ (.int .i64 0) (λ h => st1 ⟨v4, 5, none⟩ (.int .u8 0) (λ h => st1 ⟨v4, 6, none⟩ (.int .i64 0) (λ h => st1 ⟨v4, 7, none⟩ (.int .i64 0) (λ h => (LdI G h .i64 ⟨v4, 0, none⟩ λ v63 => LdI G h .i64 ⟨v4, 1, none⟩ λ v64 => LdI G h .i64 ⟨v4, 2, none⟩ λ v65 => LdI G h .i64 ⟨v4, 3, none⟩ λ v66 => LdI G h .i64 ⟨v4, 4, none⟩ λ v67 => LdI G h .u8 ⟨v4, 5, none⟩ λ v68 => LdI G h .i64 ⟨v4, 6, none⟩ λ v69 => LdI G h .i64 ⟨v4, 7, none⟩ λ v70 => K (.tuple #[(.agg #[(.int .i64 v63), (.int .i64 v64), (.int .i64 v65), (.int .i64 v66), (.int .i64 v67), (.int .u8 v68), (.int .i64 v69), (.int .i64 v70)]), v60]) h)) h) h) h) h) h) h) h) h) ((Rq ((0 : Int) <= 1 /\ 1 < ((14 : Nat) : Int)) (LdI G h .i64 ⟨v61, 1, none⟩ λ v71 => Rq ((0 : Int) <= 8 /\ 8 < ((14 : Nat) : Int)) (LdI G h .i64 ⟨v61, 8, none⟩ λ v72 => CallF Tryz.prog G 164 #[(.pointer (some ⟨v61, 0, none⟩))] (λ v78 h => ∃ v73 v74 v75 v76 v77, v78 = (.agg #[(.int .i64 v73), (.int .i64 v74), (.int .u8 v75), (.int .i64 v76), (.int .i64 v77)]) /\ hcell (rd G h) ⟨v61, 8, none⟩ = some (.int .i64 v72) /\ hcell (rd G h) ⟨v61, 1, none⟩ = some (.int .i64 v71) /\ st1 ⟨v4, 0, none⟩ (.int .i64 (IntKind.wrap .i64 v16)) (λ h => st1 ⟨v4, 1, none⟩ (.int .i64 v71) (λ h => st1 ⟨v4, 2, none⟩ (.int .i64 v72) (λ h => st1 ⟨v4, 3, none⟩ (.int .i64 v73) (λ h => st1 ⟨v4, 4, none⟩ (.int .i64 v74) (λ h => st1 ⟨v4, 5, none⟩ (.int .u8 v75) (λ h => st1 ⟨v4, 6, none⟩ (.int .i64 v76) (λ h => st1 ⟨v4, 7, none⟩ (.int .i64 v77) (λ h => (LdI G h .i64 ⟨v4, 0, none⟩ λ v79 => LdI G h .i64 ⟨v4, 1, none⟩ λ v80 => LdI G h .i64 ⟨v4, 2, none⟩ λ v81 => LdI G h .i64 ⟨v4, 3, none⟩ λ v82 => LdI G h .i64 ⟨v4, 4, none⟩ λ v83 => LdI G h .u8 ⟨v4, 5, none⟩ λ v84 => LdI G h .i64 ⟨v4, 6, none⟩ λ v85 => LdI G h .i64 ⟨v4, 7, none⟩ λ v86 => K (.tuple #[(.agg #[(.int .i64 v79), (.int .i64 v80), (.int .i64 v81), (.int .i64 v82), (.int .i64 v83), (.int .u8 v84), (.int .i64 v85), (.int .i64 v86)]), .nilIface]) h)) h) h) h) h) h) h) h) h) Kp h)))))))) h) h) h) h) h) h) h) h) h) h) h) h) h) h) h) Kp h))))) Kp h)))
def S130 (G : Heap) (K : Value -> Heap -> Prop) (Kp : PK) (v1 : Option Addr) (v2 : Nat) (v3 : Nat) (h : Heap) : Prop :=
 newK G (.cells #[(.int .i64 0), (.int .i64 0), (.int .i64 0), (.int .i64 0), (.int .i64 0), (.int .u8 0), (.int .i64 0), (.int .i64 0)] 154) (λ v4 h => ((If (((v2 : Nat) : Int) == 0) (CallF Tryz.prog G 43 #[(.int .i64 0), (.int .i64 62)] (λ v6 h => ∃ v5, v6 = v5 /\ st1 ⟨v4, 0, none⟩ (.int .i64 0) (λ h => st1 ⟨v4, 1, none⟩ (.int .i64 0) (λ h => st1 ⟨v4, 2, none⟩ (.int .i64 0) (λ h => st1 ⟨v4, 3, none⟩ (.int .i64 0) (λ h => st1 ⟨v4, 4, none⟩ (.int .i64 0) (λ h => st1 ⟨v4, 5, none⟩ (.int .u8 0) (λ h => st1 ⟨v4, 6, none⟩ (.int .i64 0) (λ h => st1 ⟨v4, 7, none⟩ (.int .i64 0) (λ h => (LdI G h .i64 ⟨v4, 0, none⟩ λ v7 => LdI G h .i64 ⟨v4, 1, none⟩ λ v8 => LdI G h .i64 ⟨v4, 2, none⟩ λ v9 => LdI G h .i64 ⟨v4, 3, none⟩ λ v10 => LdI G h .i64 ⟨v4, 4, none⟩ λ v11 => LdI G h .u8 ⟨v4, 5, none⟩ λ v12 => LdI G h .i64 ⟨v4, 6, none⟩ λ v13 => LdI G h .i64 ⟨v4, 7, none⟩ λ v14 => K (.tuple #[(.agg #[(.int .i64 v7), (.int .i64 v8), (.int .i64 v9), (.int .i64 v10), (.int .i64 v11), (.int .u8 v12), (.int .i64 v13), (.int .i64 v14)]), v5]) h)) h) h) h) h) h) h) h) h) Kp h) ((Rq ((0 : Int) <= 0 /\ 0 < ((v2 : Nat) : Int)) (NN v1 λ v15 => LdI G h .u8 v15 λ v16 => (If (decide ((IntKind.wrap .i64 v16) < 1)) ((S130_k1 G K Kp v4 v16 v2 v1 v3 true h)) ((S130_k1 G K Kp v4 v16 v2 v1 v3 (decide ((IntKind.wrap .i64 v16) > 2)) h))))))))) h
noncomputable def E130 : TE := mkE [R3, R5, R23, R49, R78, R84, R154, R202, R204, R304] false (.any)
theorem T130 : TOk Tryz.prog E130 := mkE_ok (AllOk.mem (⟨R3_ok, R5_ok, R23_ok, R49_ok, R78_ok, R84_ok, R154_ok, R202_ok, R204_ok, R304_ok, trivial⟩ : AllOk Tryz.prog [R3, R5, R23, R49, R78, R84, R154, R202, R204, R304]))
def ann130 : Nat -> LAnn := λ _ => ⟨[], []⟩
theorem vc130 {v1 : Option Addr} {v2 : Nat} {v3 : Nat} :
  S130 G K Kp v1 v2 v3 h = vcC E130 Tryz.prog G 54 ann130 Kp (bodyOf Tryz.f130) (retQ E130 G Tryz.f130.results.toList K) (frmA (#[(.slice v1 v2 v3)] : Array Value).toList 0) h := by kernel_rfl
theorem b130 : bOk Tryz.prog 130 Tryz.f130 54 ann130 = true := by kernel_rfl
theorem S130_ok {v1 : Option Addr} {v2 : Nat} {v3 : Nat} (hh : S130 G K Kp v1 v2 v3 h) :
  CallF Tryz.prog G 130 #[(.slice v1 v2 v3)] K Kp h :=
 callF_b T130 hmix Tryz.func130 Tryz.ntmps130 b130 (by kernel_rfl) (Eq.mp vc130 hh)
def ann7 : Nat -> LAnn := λ k => (bif Nat.beq k 17 then ⟨[(16, .int .i64), (17, .int .i64)], [73, 74, 75, 76, 77, 78, 79, 80, 81, 82, 83, 84, 85, 86, 87, 88, 89, 90, 91, 92, 93, 94, 95, 96, 97, 98, 99]⟩ else (bif Nat.beq k 10 then ⟨[(8, .int .i64), (9, .int .i64), (10, .int .i64), (11, .int .i64)], [2, 12, 13, 14, 15, 16, 17, 40, 41, 42, 43, 44, 45, 46, 47, 48, 49, 50, 51, 52, 53, 54, 55, 56, 57, 58, 59, 60, 61, 62, 63, 64, 65, 66, 67, 68, 69, 70, 71, 72, 73, 74, 75, 76, 77, 78, 79, 80, 81, 82, 83, 84, 85, 86, 87, 88, 89, 90, 91, 92, 93, 94, 95, 96, 97, 98, 99, 100, 101, 102, 103, 104, 105, 106, 107, 108, 109, 110, 111]⟩ else (bif Nat.beq k 6 then ⟨[(6, .int .i64), (7, .int .i64)], [2, 8, 9, 10, 11, 12, 13, 14, 15, 16, 17, 18, 31, 32, 33, 34, 35, 36, 37, 38, 39, 40, 41, 42, 43, 44, 45, 46, 47, 48, 49, 50, 51, 52, 53, 54, 55, 56, 57, 58, 59, 60, 61, 62, 63, 64, 65, 66, 67, 68, 69, 70, 71, 72, 73, 74, 75, 76, 77, 78, 79, 80, 81, 82, 83, 84, 85, 86, 87, 88, 89, 90, 91, 92, 93, 94, 95, 96, 97, 98, 99, 100, 101, 102, 103, 104, 105, 106, 107, 108, 109, 110, 111, 112, 113, 114, 115, 116, 117, 118, 119, 120, 121, 122, 123, 124, 125, 126, 127, 128, 129, 130, 131, 132, 133, 134, 135, 136, 137, 138, 139, 140, 141, 142, 143, 144, 145, 146, 147, 148, 149, 150, 151, 152, 153, 154, 155, 156, 157, 158, 159, 160]⟩ else ⟨[], []⟩)))
theorem b7 : bOk Tryz.prog 7 Tryz.f7 176 ann7 = true := by kernel_rfl
def S55_k1 (G : Heap) (K : Value -> Heap -> Prop) (Kp : PK) (v9 : Nat) (v8 : Nat) (v1 : Option Addr) (v38 : Value) (h : Heap) : Prop :=
 Rq (IsI v38) ((If (!(isNilI v38)) (CallF Tryz.prog G 72 #[v38] (λ v40 h => ∃ v39, v40 = (.int .i64 v39) /\ st1 ⟨v9, 0, none⟩ (.int .i64 0) (λ h => st1 ⟨v9, 1, none⟩ (.int .i64 0) (λ h => st1 ⟨v9, 2, none⟩ (.int .u8 0) (λ h => st1 ⟨v9, 3, none⟩ (.int .i64 0) (λ h => st1 ⟨v9, 4, none⟩ (.int .i64 0) (λ h => (LdI G h .i64 ⟨v9, 0, none⟩ λ v41 => LdI G h .i64 ⟨v9, 1, none⟩ λ v42 => LdI G h .u8 ⟨v9, 2, none⟩ λ v43 => LdI G h .i64 ⟨v9, 3, none⟩ λ v44 => LdI G h .i64 ⟨v9, 4, none⟩ λ v45 => K (.tuple #[(.int .i64 0), (.agg #[(.int .i64 v41), (.int .i64 v42), (.int .u8 v43), (.int .i64 v44), (.int .i64 v45)]), (.int .i64 v39)]) h)) h) h) h) h) h) Kp h) ((LdI G h .i64 ⟨v8, 0, none⟩ λ v46 => LdI G h .i64 ⟨v8, 1, none⟩ λ v47 => LdI G h .i64 ⟨v8, 2, none⟩ λ v48 => LdI G h .u8 ⟨v8, 3, none⟩ λ v49 => LdI G h .i64 ⟨v8, 4, none⟩ λ v50 => LdI G h .i64 ⟨v8, 5, none⟩ λ v51 => CallF Tryz.prog G 80 #[(.pointer v1), (.agg #[(.int .i64 v46), (.int .i64 v47), (.int .i64 v48), (.int .u8 v49), (.int .i64 v50), (.int .i64 v51)])] (λ v52 h => v52 = (.tuple #[]) /\ (NN v1 λ v53 => LdSl G h (ad v53 3) λ v54 v55 v56 => NN v1 λ v57 => LdSl G h (ad v57 4) λ v58 v59 v60 => NN v1 λ v61 => LdSl G h (ad v61 4) λ v62 v63 v64 => Rng (((v63 : Nat) : Int) - 1) (Rq ((0 : Int) <= (((v63 : Nat) : Int) - 1) /\ (((v63 : Nat) : Int) - 1) < ((v59 : Nat) : Int)) (NN v58 λ v65 => LdI G h .i64 (Addr.add v65 (Int.toNat (((v63 : Nat) : Int) - 1) * 5)) λ v66 => LdI G h .i64 (ad (Addr.add v65 (Int.toNat (((v63 : Nat) : Int) - 1) * 5)) 1) λ v67 => LdI G h .u8 (ad (Addr.add v65 (Int.toNat (((v63 : Nat) : Int) - 1) * 5)) 2) λ v68 => LdI G h .i64 (ad (Addr.add v65 (Int.toNat (((v63 : Nat) : Int) - 1) * 5)) 3) λ v69 => LdI G h .i64 (ad (Addr.add v65 (Int.toNat (((v63 : Nat) : Int) - 1) * 5)) 4) λ v70 => st1 ⟨v9, 0, none⟩ (.int .i64 v66) (λ h => st1 ⟨v9, 1, none⟩ (.int .i64 v67) (λ h => st1 ⟨v9, 2, none⟩ (.int .u8 v68) (λ h => st1 ⟨v9, 3, none⟩ (.int .i64 v69) (λ h => st1 ⟨v9, 4, none⟩ (.int .i64 v70) (λ h => (LdI G h .i64 ⟨v9, 0, none⟩ λ v71 => LdI G h .i64 ⟨v9, 1, none⟩ λ v72 => LdI G h .u8 ⟨v9, 2, none⟩ λ v73 => LdI G h .i64 ⟨v9, 3, none⟩ λ v74 => LdI G h .i64 ⟨v9, 4, none⟩ λ v75 => K (.tuple #[(.int .i64 ((v55 : Nat) : Int)), (.agg #[(.int .i64 v71), (.int .i64 v72), (.int .u8 v73), (.int .i64 v74), (.int .i64 v75)]), (.int .i64 0)]) h)) h) h) h) h) h)))) Kp h))))
def S55 (G : Heap) (K : Value -> Heap -> Prop) (Kp : PK) (v1 : Option Addr) (v2 : Int) (v3 : Int) (v4 : Int) (v5 : Int) (v6 : Int) (v7 : Int) (h : Heap) : Prop :=
 newK G (.cells #[(.int .i64 v2), (.int .i64 v3), (.int .i64 v4), (.int .u8 v5), (.int .i64 v6), (.int .i64 v7)] 124) (λ v8 h => newK G (.cells #[(.int .i64 0), (.int .i64 0), (.int .u8 0), (.int .i64 0), (.int .i64 0)] 84) (λ v9 h => (LdI G h .i64 ⟨v8, 0, none⟩ λ v10 => LdI G h .i64 ⟨v8, 1, none⟩ λ v11 => LdI G h .i64 ⟨v8, 2, none⟩ λ v12 => LdI G h .u8 ⟨v8, 3, none⟩ λ v13 => LdI G h .i64 ⟨v8, 4, none⟩ λ v14 => LdI G h .i64 ⟨v8, 5, none⟩ λ v15 => CallF Tryz.prog G 79 #[(.pointer v1), (.agg #[(.int .i64 v10), (.int .i64 v11), (.int .i64 v12), (.int .u8 v13), (.int .i64 v14), (.int .i64 v15)])] (λ v17 h => ∃ v16, v17 = (.int .i64 v16) /\ ((If (v16 != 0) (st1 ⟨v9, 0, none⟩ (.int .i64 0) (λ h => st1 ⟨v9, 1, none⟩ (.int .i64 0) (λ h => st1 ⟨v9, 2, none⟩ (.int .u8 0) (λ h => st1 ⟨v9, 3, none⟩ (.int .i64 0) (λ h => st1 ⟨v9, 4, none⟩ (.int .i64 0) (λ h => (LdI G h .i64 ⟨v9, 0, none⟩ λ v18 => LdI G h .i64 ⟨v9, 1, none⟩ λ v19 => LdI G h .u8 ⟨v9, 2, none⟩ λ v20 => LdI G h .i64 ⟨v9, 3, none⟩ λ v21 => LdI G h .i64 ⟨v9, 4, none⟩ λ v22 => K (.tuple #[(.int .i64 0), (.agg #[(.int .i64 v18), (.int .i64 v19), (.int .u8 v20), (.int .i64 v21), (.int .i64 v22)]), (.int .i64 v16)]) h)) h) h) h) h) h) ((LdI G h .i64 ⟨v8, 0, none⟩ λ v23 => LdI G h .i64 ⟨v8, 1, none⟩ λ v24 => LdI G h .i64 ⟨v8, 2, none⟩ λ v25 => LdI G h .u8 ⟨v8, 3, none⟩ λ v26 => LdI G h .i64 ⟨v8, 4, none⟩ λ v27 => LdI G h .i64 ⟨v8, 5, none⟩ λ v28 => CallF Tryz.prog G 70 #[(.agg #[(.int .i64 2), (.int .i64 0), (.int .i64 v23), (.int .i64 v24), (.int .i64 v25), (.int .u8 v26), (.int .i64 v27), (.int .i64 v28)])] (λ v33 h => ∃ v29 v30 v31 v32, v33 = (.tuple #[(.slice v29 v30 v31), v32]) /\ (Rq (IsI v32) ((If (isNilI v32) (NN v1 λ v34 => LdP G h v34 λ v35 => CallF Tryz.prog G 71 #[(.pointer v35), (.slice v29 v30 v31)] (λ v37 h => ∃ v36, v37 = v36 /\ (S55_k1 G K Kp v9 v8 v1 v36 h)) Kp h) ((S55_k1 G K Kp v9 v8 v1 v32 h)))))) Kp h))))) Kp h)) h) h
noncomputable def E55 : TE := mkE [R0, R3, R5, R33, R37, R40, R78, R84, R124, R127, R131, R151, R154] false (.any)
theorem T55 : TOk Tryz.prog E55 := mkE_ok (AllOk.mem (⟨R0_ok, R3_ok, R5_ok, R33_ok, R37_ok, R40_ok, R78_ok, R84_ok, R124_ok, R127_ok, R131_ok, R151_ok, R154_ok, trivial⟩ : AllOk Tryz.prog [R0, R3, R5, R33, R37, R40, R78, R84, R124, R127, R131, R151, R154]))
def ann55 : Nat -> LAnn := λ _ => ⟨[], []⟩
theorem vc55 {v1 : Option Addr} {v2 : Int} {v3 : Int} {v4 : Int} {v5 : Int} {v6 : Int} {v7 : Int} :
  S55 G K Kp v1 v2 v3 v4 v5 v6 v7 h = vcC E55 Tryz.prog G 59 ann55 Kp (bodyOf Tryz.f55) (retQ E55 G Tryz.f55.results.toList K) (frmA (#[(.pointer v1), (.agg #[(.int .i64 v2), (.int .i64 v3), (.int .i64 v4), (.int .u8 v5), (.int .i64 v6), (.int .i64 v7)])] : Array Value).toList 0) h := by kernel_rfl
theorem b55 : bOk Tryz.prog 55 Tryz.f55 59 ann55 = true := by kernel_rfl
theorem S55_ok {v1 : Option Addr} {v2 : Int} {v3 : Int} {v4 : Int} {v5 : Int} {v6 : Int} {v7 : Int} (hh : S55 G K Kp v1 v2 v3 v4 v5 v6 v7 h) :
  CallF Tryz.prog G 55 #[(.pointer v1), (.agg #[(.int .i64 v2), (.int .i64 v3), (.int .i64 v4), (.int .u8 v5), (.int .i64 v6), (.int .i64 v7)])] K Kp h :=
 callF_b T55 hmix Tryz.func55 Tryz.ntmps55 b55 (by kernel_rfl) (Eq.mp vc55 hh)
def S129_k2 (G : Heap) (K : Value -> Heap -> Prop) (Kp : PK) (v45 : Int) (v46 : List Value -> Heap -> Prop)  (h : Heap) : Prop :=
 Rng (v45 + 1) (v46 [(.int .i64 (v45 + 1))] h)
def S129_k3 (G : Heap) (K : Value -> Heap -> Prop) (Kp : PK)   (h : Heap) : Prop :=
 (K (.bool false) h)
def S129_l18 (G : Heap) (K : Value -> Heap -> Prop) (Kp : PK) (v42 : Nat) (v41 : Option Addr) (v7 : Nat) (v2 : Value) (v6 : Value) (_ : Nat -> Value) (v47 : List Value) (v46 : List Value -> Heap -> Prop) (h : Heap) : Prop :=
 ∃ v45, v47 = [(.int .i64 v45)] /\ (If (decide (v45 < ((v42 : Nat) : Int))) ((Rq ((0 : Int) <= v45 /\ v45 < ((v42 : Nat) : Int)) (NN v41 λ v48 => LdV G h (Addr.add v48 (Int.toNat v45 * 1)) λ v49 => (Rq (IsI v49) ((If (isNilI v49) ((S129_k2 G K Kp v45 v46 h)) ((LdP G h ⟨v7, 0, none⟩ λ v50 => LdV G h ⟨v7, 1, none⟩ λ v51 => LdI G h .u64 ⟨v7, 2, none⟩ λ v52 => CallF Tryz.prog G 129 #[v49, v2, (.agg #[(.pointer v50), v51, (.int .u64 v52)]), v6] (λ v54 h => ∃ v53, v54 = (.bool v53) /\ (If v53 ((K (.bool true) h)) ((S129_k2 G K Kp v45 v46 h)))) Kp h)))))))) ((S129_k3 G K Kp h)))
def S129_k1 (G : Heap) (K : Value -> Heap -> Prop) (Kp : PK) (v8 : Value) (v9 : List Value -> Heap -> Prop) (v7 : Nat) (v2 : Value) (v6 : Value) (v32 : Bool) (h : Heap) : Prop :=
 If v32 ((K (.bool true) h)) (((slV Tryz.prog G (Instr.typeAssert v8 78 299 true) (λ v35 h => ∃ v33 v34, v35 = (.tuple #[v33, (.bool v34)]) /\ (If v34 ((CallM Tryz.prog G v33 "Unwrap" #[] (λ v37 h => ∃ v36, v37 = v36 /\ (Rq (IsI v36) ((If (isNilI v36) ((K (.bool false) h)) (v9 [v36] h))))) Kp h)) (slV Tryz.prog G (Instr.typeAssert v8 78 300 true) (λ v40 h => ∃ v38 v39, v40 = (.tuple #[v38, (.bool v39)]) /\ (If v39 ((CallM Tryz.prog G v38 "Unwrap" #[] (λ v44 h => ∃ v41 v42 v43, v44 = (.slice v41 v42 v43) /\ (LoopS [(.int .i64 0)] h (S129_l18 G K Kp v42 v41 v7 v2 v6))) Kp h)) (((K (.bool false) h))))) Kp h))) Kp h)))
def S129_l1 (G : Heap) (K : Value -> Heap -> Prop) (Kp : PK) (v6 : Value) (v7 : Nat) (v2 : Value) (_ : Nat -> Value) (v10 : List Value) (v9 : List Value -> Heap -> Prop) (h : Heap) : Prop :=
 ∃ v8, v10 = [v8] /\ CallF Tryz.prog G 159 #[v8] (λ v14 h => ∃ v11, v14 = v11 /\ CallM Tryz.prog G v11 "AssignableTo" #[v6] (λ v13 h => ∃ v12, v13 = (.bool v12) /\ (If v12 (LdP G h ⟨v7, 0, none⟩ λ v15 => LdV G h ⟨v7, 1, none⟩ λ v16 => LdI G h .u64 ⟨v7, 2, none⟩ λ v17 => CallF Tryz.prog G 160 #[(.agg #[(.pointer v15), v16, (.int .u64 v17)])] (λ v26 h => ∃ v18 v19 v20, v26 = (.agg #[(.pointer v18), v19, (.int .u64 v20)]) /\ CallF Tryz.prog G 126 #[v8] (λ v25 h => ∃ v21 v22 v23, v25 = (.agg #[(.pointer v21), v22, (.int .u64 v23)]) /\ CallF Tryz.prog G 161 #[(.agg #[(.pointer v18), v19, (.int .u64 v20)]), (.agg #[(.pointer v21), v22, (.int .u64 v23)])] (λ v24 h => v24 = (.tuple #[]) /\ ((K (.bool true) h))) Kp h) Kp h) Kp h) ((slV Tryz.prog G (Instr.typeAssert v8 78 296 true) (λ v29 h => ∃ v27 v28, v29 = (.tuple #[v27, (.bool v28)]) /\ (If v28 (CallM Tryz.prog G v27 "As" #[v2] (λ v31 h => ∃ v30, v31 = (.bool v30) /\ (S129_k1 G K Kp v8 v9 v7 v2 v6 v30 h)) Kp h) ((S129_k1 G K Kp v8 v9 v7 v2 v6 false h)))) Kp h)))) Kp h) Kp h
def S129 (G : Heap) (K : Value -> Heap -> Prop) (Kp : PK) (v1 : Value) (v2 : Value) (v3 : Option Addr) (v4 : Value) (v5 : Int) (v6 : Value) (h : Heap) : Prop :=
 newK G (.cells #[(.pointer v3), v4, (.int .u64 v5)] 246) (λ v7 h => (LoopS [v1] h (S129_l1 G K Kp v6 v7 v2))) h
noncomputable def E129 : TE := mkE [R0, R4, R78, R246, R249, R296, R299, R300, R301] false (.any)
theorem T129 : TOk Tryz.prog E129 := mkE_ok (AllOk.mem (⟨R0_ok, R4_ok, R78_ok, R246_ok, R249_ok, R296_ok, R299_ok, R300_ok, R301_ok, trivial⟩ : AllOk Tryz.prog [R0, R4, R78, R246, R249, R296, R299, R300, R301]))
def ann129 : Nat -> LAnn := λ k => (bif Nat.beq k 18 then ⟨[(50, .int .i64)], [8, 14, 51, 52, 53, 54, 55, 56, 57, 58, 59, 60, 61]⟩ else (bif Nat.beq k 1 then ⟨[(0, .any)], [8, 9, 10, 11, 12, 14, 15, 16, 17, 18, 19, 20, 21, 22, 23, 24, 25, 26, 27, 28, 29, 30, 31, 32, 33, 34, 35, 36, 37, 38, 39, 40, 41, 42, 43, 44, 45, 46, 47, 48, 49, 50, 51, 52, 53, 54, 55, 56, 57, 58, 59, 60, 61]⟩ else ⟨[], []⟩))
theorem vc129 {v1 : Value} {v2 : Value} {v3 : Option Addr} {v4 : Value} {v5 : Int} {v6 : Value} :
  S129 G K Kp v1 v2 v3 v4 v5 v6 h = vcC E129 Tryz.prog G 62 ann129 Kp (bodyOf Tryz.f129) (retQ E129 G Tryz.f129.results.toList K) (frmA (#[v1, v2, (.agg #[(.pointer v3), v4, (.int .u64 v5)]), v6] : Array Value).toList 0) h := by kernel_rfl
theorem b129 : bOk Tryz.prog 129 Tryz.f129 62 ann129 = true := by kernel_rfl
theorem S129_ok {v1 : Value} {v2 : Value} {v3 : Option Addr} {v4 : Value} {v5 : Int} {v6 : Value} (hh : S129 G K Kp v1 v2 v3 v4 v5 v6 h) :
  CallF Tryz.prog G 129 #[v1, v2, (.agg #[(.pointer v3), v4, (.int .u64 v5)]), v6] K Kp h :=
 callF_b T129 hmix Tryz.func129 Tryz.ntmps129 b129 (by kernel_rfl) (Eq.mp vc129 hh)
def S135_k2 (G : Heap) (K : Value -> Heap -> Prop) (Kp : PK) (v16 : Nat) (v1 : Option Addr) (v31 : Bool) (h : Heap) : Prop :=
 If v31 ((K (.int .i64 114) h)) (LdI G h .i64 ⟨v16, 0, none⟩ λ v32 => (If (v32 == 4) ((K (.int .i64 0) h)) (LdI G h .i64 ⟨v16, 6, none⟩ λ v33 => NN v1 λ v34 => LdP G h v34 λ v35 => CallF Tryz.prog G 168 #[(.pointer v35)] (λ v37 h => ∃ v36, v37 = (.int .i64 v36) /\ hcell (rd G h) ⟨v16, 6, none⟩ = some (.int .i64 v33) /\ (If (decide (v33 > v36)) ((K (.int .i64 82) h)) (LdI G h .i64 ⟨v16, 0, none⟩ λ v38 => (If (v38 == 6) ((K (.int .i64 0) h)) (LdI G h .i64 ⟨v16, 7, none⟩ λ v39 => NN v1 λ v40 => LdI G h .i64 (ad v40 7) λ v41 => LdI G h .i64 ⟨v16, 5, none⟩ λ v42 => Rng (v41 + v42) ((If (v39 != (v41 + v42)) ((K (.int .i64 115) h)) (LdI G h .i64 ⟨v16, 5, none⟩ λ v43 => NN v1 λ v44 => LdP G h (ad v44 1) λ v45 => CallF Tryz.prog G 169 #[(.pointer v45)] (λ v47 h => ∃ v46, v47 = (.int .i64 v46) /\ hcell (rd G h) ⟨v16, 5, none⟩ = some (.int .i64 v43) /\ Rng (v46 + 8) ((If (decide (v43 > (v46 + 8))) ((K (.int .i64 93) h)) (LdI G h .i64 ⟨v16, 5, none⟩ λ v48 => NN v1 λ v49 => LdP G h (ad v49 1) λ v50 => CallF Tryz.prog G 169 #[(.pointer v50)] (λ v52 h => ∃ v51, v52 = (.int .i64 v51) /\ hcell (rd G h) ⟨v16, 5, none⟩ = some (.int .i64 v48) /\ Rng (v51 + 1) ((If (v48 == (v51 + 1)) (LdI G h .i64 ⟨v16, 9, none⟩ λ v53 => LdI G h .i64 ⟨v16, 10, none⟩ λ v54 => LdI G h .u8 ⟨v16, 11, none⟩ λ v55 => LdI G h .i64 ⟨v16, 12, none⟩ λ v56 => LdI G h .i64 ⟨v16, 13, none⟩ λ v57 => CallF Tryz.prog G 170 #[(.pointer v1), (.agg #[(.int .i64 v53), (.int .i64 v54), (.int .u8 v55), (.int .i64 v56), (.int .i64 v57)])] (λ v59 h => ∃ v58, v59 = (.int .i64 v58) /\ (K (.int .i64 v58) h)) Kp h) (((K (.int .i64 0) h)))))) Kp h)))) Kp h)))))))) Kp h)))
def S135_k1 (G : Heap) (K : Value -> Heap -> Prop) (Kp : PK) (v16 : Nat) (v1 : Option Addr) (v20 : Bool) (h : Heap) : Prop :=
 If v20 ((K (.int .i64 112) h)) (LdI G h .i64 ⟨v16, 2, none⟩ λ v21 => NN v1 λ v22 => LdI G h .i64 (ad v22 3) λ v23 => (If (v21 != v23) ((K (.int .i64 113) h)) (LdI G h .i64 ⟨v16, 1, none⟩ λ v24 => NN v1 λ v25 => LdI G h .i64 (ad v25 4) λ v26 => If (decide (v24 < v26)) ((S135_k2 G K Kp v16 v1 true h)) (LdI G h .i64 ⟨v16, 0, none⟩ λ v27 => If (v27 != 4) (LdI G h .i64 ⟨v16, 1, none⟩ λ v28 => NN v1 λ v29 => LdI G h .i64 (ad v29 4) λ v30 => (S135_k2 G K Kp v16 v1 (v28 != v30) h)) ((S135_k2 G K Kp v16 v1 false h))))))
def S135 (G : Heap) (K : Value -> Heap -> Prop) (Kp : PK) (v1 : Option Addr) (v2 : Int) (v3 : Int) (v4 : Int) (v5 : Int) (v6 : Int) (v7 : Int) (v8 : Int) (v9 : Int) (v10 : Int) (v11 : Int) (v12 : Int) (v13 : Int) (v14 : Int) (v15 : Int) (h : Heap) : Prop :=
 newK G (.cells #[(.int .i64 v2), (.int .i64 v3), (.int .i64 v4), (.int .i64 v5), (.int .i64 v6), (.int .i64 v7), (.int .i64 v8), (.int .i64 v9), (.int .i64 v10), (.int .i64 v11), (.int .i64 v12), (.int .u8 v13), (.int .i64 v14), (.int .i64 v15)] 150) (λ v16 h => (LdI G h .i64 ⟨v16, 0, none⟩ λ v17 => If (v17 == 1) ((S135_k1 G K Kp v16 v1 true h)) (LdI G h .i64 ⟨v16, 0, none⟩ λ v18 => If (v18 == 2) ((S135_k1 G K Kp v16 v1 true h)) (LdI G h .i64 ⟨v16, 0, none⟩ λ v19 => (S135_k1 G K Kp v16 v1 (v19 == 3) h))))) h
noncomputable def E135 : TE := mkE [R3, R40, R84, R150, R185, R188, R192, R199] false (.any)
theorem T135 : TOk Tryz.prog E135 := mkE_ok (AllOk.mem (⟨R3_ok, R40_ok, R84_ok, R150_ok, R185_ok, R188_ok, R192_ok, R199_ok, trivial⟩ : AllOk Tryz.prog [R3, R40, R84, R150, R185, R188, R192, R199]))
def ann135 : Nat -> LAnn := λ _ => ⟨[], []⟩
theorem vc135 {v1 : Option Addr} {v2 : Int} {v3 : Int} {v4 : Int} {v5 : Int} {v6 : Int} {v7 : Int} {v8 : Int} {v9 : Int} {v10 : Int} {v11 : Int} {v12 : Int} {v13 : Int} {v14 : Int} {v15 : Int} :
  S135 G K Kp v1 v2 v3 v4 v5 v6 v7 v8 v9 v10 v11 v12 v13 v14 v15 h = vcC E135 Tryz.prog G 104 ann135 Kp (bodyOf Tryz.f135) (retQ E135 G Tryz.f135.results.toList K) (frmA (#[(.pointer v1), (.agg #[(.int .i64 v2), (.int .i64 v3), (.int .i64 v4), (.int .i64 v5), (.int .i64 v6), (.int .i64 v7), (.int .i64 v8), (.int .i64 v9), (.int .i64 v10), (.int .i64 v11), (.int .i64 v12), (.int .u8 v13), (.int .i64 v14), (.int .i64 v15)])] : Array Value).toList 0) h := by kernel_rfl
theorem b135 : bOk Tryz.prog 135 Tryz.f135 104 ann135 = true := by kernel_rfl
theorem S135_ok {v1 : Option Addr} {v2 : Int} {v3 : Int} {v4 : Int} {v5 : Int} {v6 : Int} {v7 : Int} {v8 : Int} {v9 : Int} {v10 : Int} {v11 : Int} {v12 : Int} {v13 : Int} {v14 : Int} {v15 : Int} (hh : S135 G K Kp v1 v2 v3 v4 v5 v6 v7 v8 v9 v10 v11 v12 v13 v14 v15 h) :
  CallF Tryz.prog G 135 #[(.pointer v1), (.agg #[(.int .i64 v2), (.int .i64 v3), (.int .i64 v4), (.int .i64 v5), (.int .i64 v6), (.int .i64 v7), (.int .i64 v8), (.int .i64 v9), (.int .i64 v10), (.int .i64 v11), (.int .i64 v12), (.int .u8 v13), (.int .i64 v14), (.int .i64 v15)])] K Kp h :=
 callF_b T135 hmix Tryz.func135 Tryz.ntmps135 b135 (by kernel_rfl) (Eq.mp vc135 hh)
def S97 (G : Heap) (K : Value -> Heap -> Prop) (Kp : PK) (v1 : Int) (v2 : Int) (v3 : Int) (v4 : Int) (v5 : Int) (v6 : Int) (v7 : Int) (v8 : Int) (v9 : Int) (v10 : Int) (v11 : Int) (v12 : Int) (v13 : Int) (v14 : Int) (h : Heap) : Prop :=
 newK G (.cells #[(.int .i64 v1), (.int .i64 v2), (.int .i64 v3), (.int .i64 v4), (.int .i64 v5), (.int .i64 v6), (.int .i64 v7), (.int .i64 v8), (.int .i64 v9), (.int .i64 v10), (.int .i64 v11), (.int .u8 v12), (.int .i64 v13), (.int .i64 v14)] 150) (λ v15 h => newK G (.cells #[(.int .i64 0), (.int .i64 0), (.int .i64 0), (.int .i64 0), (.int .i64 0), (.int .i64 0), (.int .i64 0), (.int .i64 0), (.int .i64 0), (.int .i64 0), (.int .i64 0), (.int .i64 0), (.int .i64 0), (.int .i64 0)] 202) (λ v16 h => (LdI G h .i64 ⟨v15, 0, none⟩ λ v17 => LdI G h .i64 ⟨v15, 1, none⟩ λ v18 => LdI G h .i64 ⟨v15, 2, none⟩ λ v19 => LdI G h .i64 ⟨v15, 3, none⟩ λ v20 => LdI G h .i64 ⟨v15, 4, none⟩ λ v21 => LdI G h .i64 ⟨v15, 5, none⟩ λ v22 => LdI G h .i64 ⟨v15, 6, none⟩ λ v23 => LdI G h .i64 ⟨v15, 7, none⟩ λ v24 => LdI G h .i64 ⟨v15, 8, none⟩ λ v25 => LdI G h .i64 ⟨v15, 9, none⟩ λ v26 => LdI G h .i64 ⟨v15, 10, none⟩ λ v27 => LdI G h .u8 ⟨v15, 11, none⟩ λ v28 => LdI G h .i64 ⟨v15, 12, none⟩ λ v29 => LdI G h .i64 ⟨v15, 13, none⟩ λ v30 => st1 ⟨v16, 0, none⟩ (.int .i64 v17) (λ h => st1 ⟨v16, 1, none⟩ (.int .i64 v18) (λ h => st1 ⟨v16, 2, none⟩ (.int .i64 v19) (λ h => st1 ⟨v16, 3, none⟩ (.int .i64 v20) (λ h => st1 ⟨v16, 4, none⟩ (.int .i64 v21) (λ h => st1 ⟨v16, 5, none⟩ (.int .i64 v22) (λ h => st1 ⟨v16, 6, none⟩ (.int .i64 v23) (λ h => st1 ⟨v16, 7, none⟩ (.int .i64 v24) (λ h => st1 ⟨v16, 8, none⟩ (.int .i64 v25) (λ h => st1 ⟨v16, 9, none⟩ (.int .i64 v26) (λ h => st1 ⟨v16, 10, none⟩ (.int .i64 v27) (λ h => st1 ⟨v16, 11, none⟩ (.int .i64 (IntKind.wrap .i64 v28)) (λ h => st1 ⟨v16, 12, none⟩ (.int .i64 v29) (λ h => st1 ⟨v16, 13, none⟩ (.int .i64 v30) (λ h => (LdI G h .i64 ⟨v16, 0, none⟩ λ v31 => LdI G h .i64 ⟨v16, 1, none⟩ λ v32 => LdI G h .i64 ⟨v16, 2, none⟩ λ v33 => LdI G h .i64 ⟨v16, 3, none⟩ λ v34 => LdI G h .i64 ⟨v16, 4, none⟩ λ v35 => LdI G h .i64 ⟨v16, 5, none⟩ λ v36 => LdI G h .i64 ⟨v16, 6, none⟩ λ v37 => LdI G h .i64 ⟨v16, 7, none⟩ λ v38 => LdI G h .i64 ⟨v16, 8, none⟩ λ v39 => LdI G h .i64 ⟨v16, 9, none⟩ λ v40 => LdI G h .i64 ⟨v16, 10, none⟩ λ v41 => LdI G h .i64 ⟨v16, 11, none⟩ λ v42 => LdI G h .i64 ⟨v16, 12, none⟩ λ v43 => LdI G h .i64 ⟨v16, 13, none⟩ λ v44 => K (.agg #[(.int .i64 v31), (.int .i64 v32), (.int .i64 v33), (.int .i64 v34), (.int .i64 v35), (.int .i64 v36), (.int .i64 v37), (.int .i64 v38), (.int .i64 v39), (.int .i64 v40), (.int .i64 v41), (.int .i64 v42), (.int .i64 v43), (.int .i64 v44)]) h)) h) h) h) h) h) h) h) h) h) h) h) h) h) h)) h) h
noncomputable def E97 : TE := mkE [R3, R5, R84, R150, R202] false (.any)
theorem T97 : TOk Tryz.prog E97 := mkE_ok (AllOk.mem (⟨R3_ok, R5_ok, R84_ok, R150_ok, R202_ok, trivial⟩ : AllOk Tryz.prog [R3, R5, R84, R150, R202]))
def ann97 : Nat -> LAnn := λ _ => ⟨[], []⟩
theorem vc97 {v1 : Int} {v2 : Int} {v3 : Int} {v4 : Int} {v5 : Int} {v6 : Int} {v7 : Int} {v8 : Int} {v9 : Int} {v10 : Int} {v11 : Int} {v12 : Int} {v13 : Int} {v14 : Int} :
  S97 G K Kp v1 v2 v3 v4 v5 v6 v7 v8 v9 v10 v11 v12 v13 v14 h = vcC E97 Tryz.prog G 38 ann97 Kp (bodyOf Tryz.f97) (retQ E97 G Tryz.f97.results.toList K) (frmA (#[(.agg #[(.int .i64 v1), (.int .i64 v2), (.int .i64 v3), (.int .i64 v4), (.int .i64 v5), (.int .i64 v6), (.int .i64 v7), (.int .i64 v8), (.int .i64 v9), (.int .i64 v10), (.int .i64 v11), (.int .u8 v12), (.int .i64 v13), (.int .i64 v14)])] : Array Value).toList 0) h := by kernel_rfl
theorem b97 : bOk Tryz.prog 97 Tryz.f97 38 ann97 = true := by kernel_rfl
theorem S97_ok {v1 : Int} {v2 : Int} {v3 : Int} {v4 : Int} {v5 : Int} {v6 : Int} {v7 : Int} {v8 : Int} {v9 : Int} {v10 : Int} {v11 : Int} {v12 : Int} {v13 : Int} {v14 : Int} (hh : S97 G K Kp v1 v2 v3 v4 v5 v6 v7 v8 v9 v10 v11 v12 v13 v14 h) :
  CallF Tryz.prog G 97 #[(.agg #[(.int .i64 v1), (.int .i64 v2), (.int .i64 v3), (.int .i64 v4), (.int .i64 v5), (.int .i64 v6), (.int .i64 v7), (.int .i64 v8), (.int .i64 v9), (.int .i64 v10), (.int .i64 v11), (.int .u8 v12), (.int .i64 v13), (.int .i64 v14)])] K Kp h :=
 callF_b T97 hmix Tryz.func97 Tryz.ntmps97 b97 (by kernel_rfl) (Eq.mp vc97 hh)
def S41_k1 (G : Heap) (K : Value -> Heap -> Prop) (Kp : PK) (v7 : Int) (v8 : List Value -> Heap -> Prop)  (h : Heap) : Prop :=
 Rng (v7 + 1) (v8 [(.int .i64 (v7 + 1))] h)
def S41_k2 (G : Heap) (K : Value -> Heap -> Prop) (Kp : PK) (v5 : Nat)  (h : Heap) : Prop :=
 (K (.func (.func 60) #[] #[(.pointer (some ⟨v5, 0, none⟩))]) h)
def S41_l3 (G : Heap) (K : Value -> Heap -> Prop) (Kp : PK) (v2 : Nat) (v1 : Option Addr) (v5 : Nat) (_ : Nat -> Value) (v9 : List Value) (v8 : List Value -> Heap -> Prop) (h : Heap) : Prop :=
 ∃ v7, v9 = [(.int .i64 v7)] /\ (If (decide (v7 < ((v2 : Nat) : Int))) ((Rq ((0 : Int) <= v7 /\ v7 < ((v2 : Nat) : Int)) (NN v1 λ v10 => LdI G h .u8 (Addr.add v10 (Int.toNat v7 * 3)) λ v11 => LdI G h .i64 (ad (Addr.add v10 (Int.toNat v7 * 3)) 1) λ v12 => LdI G h .i64 (ad (Addr.add v10 (Int.toNat v7 * 3)) 2) λ v13 => newK G (.cells #[(.int .u8 0), (.int .i64 0), (.int .i64 0)] 63) (λ v14 h => st1 ⟨v14, 0, none⟩ (.int .u8 v11) (λ h => st1 ⟨v14, 1, none⟩ (.int .i64 v12) (λ h => st1 ⟨v14, 2, none⟩ (.int .i64 v13) (λ h => (LdM G h ⟨v5, 0, none⟩ λ v15 => LdI G h .u8 ⟨v14, 0, none⟩ λ v16 => LdI G h .i64 ⟨v14, 1, none⟩ λ v17 => LdI G h .i64 ⟨v14, 2, none⟩ λ v18 => (slV Tryz.prog G (Instr.lookup 92 (.map v15) (.agg #[(.int .u8 v16), (.int .i64 v17), (.int .i64 v18)]) false) (λ v24 h => ∃ v19, v24 = (.int .i64 v19) /\ Rng (v19 + 1) (slV Tryz.prog G (Instr.mapEntry 92 (.map v15) (.agg #[(.int .u8 v16), (.int .i64 v17), (.int .i64 v18)])) (λ v23 h => ∃ v20 v21, v23 = (.tuple #[(.int .i64 v20), (.int .i64 v21)]) /\ slU Tryz.prog G (Instr.entryStore 92 (.map v15) (.int .i64 v21) (.int .i64 (v19 + 1))) (λ v22 h => v22 = (.tuple #[]) /\ (S41_k1 G K Kp v7 v8 h)) Kp h) Kp h)) Kp h) /\ slV Tryz.prog G (Instr.mapEntry 92 (.map v15) (.agg #[(.int .u8 v16), (.int .i64 v17), (.int .i64 v18)])) (λ v30 h => ∃ v25 v26, v30 = (.tuple #[(.int .i64 v25), (.int .i64 v26)]) /\ slV Tryz.prog G (Instr.lookup 92 (.map v15) (.agg #[(.int .u8 v16), (.int .i64 v17), (.int .i64 v18)]) false) (λ v29 h => ∃ v27, v29 = (.int .i64 v27) /\ Rng (v27 + 1) (slU Tryz.prog G (Instr.entryStore 92 (.map v15) (.int .i64 v26) (.int .i64 (v27 + 1))) (λ v28 h => v28 = (.tuple #[]) /\ (S41_k1 G K Kp v7 v8 h)) Kp h)) Kp h) Kp h)) h) h) h) h))) ((S41_k2 G K Kp v5 h)))
def S41 (G : Heap) (K : Value -> Heap -> Prop) (Kp : PK) (v1 : Option Addr) (v2 : Nat) (v3 : Nat) (h : Heap) : Prop :=
 (slV Tryz.prog G (Instr.makeMap 92 (some (.int .i64 ((v2 : Nat) : Int)))) (λ v6 h => ∃ v4, v6 = (.map v4) /\ newK G (.cells #[(.map none)] 92) (λ v5 h => st1 ⟨v5, 0, none⟩ (.map v4) (λ h => ((LoopS [(.int .i64 0)] h (S41_l3 G K Kp v2 v1 v5)))) h) h) Kp h)
noncomputable def E41 : TE := mkE [R0, R3, R45, R63, R92] false (.any)
theorem T41 : TOk Tryz.prog E41 := mkE_ok (AllOk.mem (⟨R0_ok, R3_ok, R45_ok, R63_ok, R92_ok, trivial⟩ : AllOk Tryz.prog [R0, R3, R45, R63, R92]))
def ann41 : Nat -> LAnn := λ k => (bif Nat.beq k 3 then ⟨[(11, .int .i64)], [5, 12, 13, 14, 15, 16, 17, 18, 19, 20, 21]⟩ else ⟨[], []⟩)
theorem vc41 {v1 : Option Addr} {v2 : Nat} {v3 : Nat} :
  S41 G K Kp v1 v2 v3 h = vcC E41 Tryz.prog G 23 ann41 Kp (bodyOf Tryz.f41) (retQ E41 G Tryz.f41.results.toList K) (frmA (#[(.slice v1 v2 v3)] : Array Value).toList 0) h := by kernel_rfl
theorem b41 : bOk Tryz.prog 41 Tryz.f41 23 ann41 = true := by kernel_rfl
theorem S41_ok {v1 : Option Addr} {v2 : Nat} {v3 : Nat} (hh : S41 G K Kp v1 v2 v3 h) :
  CallF Tryz.prog G 41 #[(.slice v1 v2 v3)] K Kp h :=
 callF_b T41 hmix Tryz.func41 Tryz.ntmps41 b41 (by kernel_rfl) (Eq.mp vc41 hh)
def S90_k2 (G : Heap) (K : Value -> Heap -> Prop) (Kp : PK) (v1 : Option Addr)  (h : Heap) : Prop :=
 CallF Tryz.prog G 73 #[(.pointer v1)] (λ v23 h => v23 = (.tuple #[]) /\ (K (.tuple #[]) h)) Kp h
def S90_k1 (G : Heap) (K : Value -> Heap -> Prop) (Kp : PK) (v15 : Nat) (v1 : Option Addr) (v2 : Int)  (h : Heap) : Prop :=
 LdI G h .i64 ⟨v15, 0, none⟩ λ v18 => (If (v18 == 1) (LdI G h .i64 ⟨v15, 1, none⟩ λ v19 => NN v1 λ v20 => LdI G h .i64 (ad v20 1) λ v21 => Rng (v21 + 1) ((If (v19 != (v21 + 1)) (slV Tryz.prog G (Instr.panic (.iface 182 (.agg #[(.int .i64 v2), (.iface 40 (.int .i64 127))]))) (λ v22 h => v22 = (.tuple #[]) /\ (S90_k2 G K Kp v1 h)) Kp h) ((S90_k2 G K Kp v1 h))))) ((LdI G h .i64 ⟨v15, 2, none⟩ λ v24 => LdI G h .i64 ⟨v15, 3, none⟩ λ v25 => LdI G h .i64 ⟨v15, 4, none⟩ λ v26 => LdI G h .u8 ⟨v15, 5, none⟩ λ v27 => LdI G h .i64 ⟨v15, 6, none⟩ λ v28 => LdI G h .i64 ⟨v15, 7, none⟩ λ v29 => CallF Tryz.prog G 131 #[(.pointer v1), (.int .i64 v2), (.agg #[(.int .i64 v24), (.int .i64 v25), (.int .i64 v26), (.int .u8 v27), (.int .i64 v28), (.int .i64 v29)])] (λ v30 h => v30 = (.tuple #[]) /\ K (.tuple #[]) h) Kp h)))
def S90 (G : Heap) (K : Value -> Heap -> Prop) (Kp : PK) (v1 : Option Addr) (v2 : Int) (v3 : Option Addr) (v4 : Nat) (v5 : Nat) (h : Heap) : Prop :=
 CallF Tryz.prog G 130 #[(.slice v3 v4 v5)] (λ v16 h => ∃ v6 v7 v8 v9 v10 v11 v12 v13 v14, v16 = (.tuple #[(.agg #[(.int .i64 v6), (.int .i64 v7), (.int .i64 v8), (.int .i64 v9), (.int .i64 v10), (.int .u8 v11), (.int .i64 v12), (.int .i64 v13)]), v14]) /\ newK G (.cells #[(.int .i64 0), (.int .i64 0), (.int .i64 0), (.int .i64 0), (.int .i64 0), (.int .u8 0), (.int .i64 0), (.int .i64 0)] 154) (λ v15 h => st1 ⟨v15, 0, none⟩ (.int .i64 v6) (λ h => st1 ⟨v15, 1, none⟩ (.int .i64 v7) (λ h => st1 ⟨v15, 2, none⟩ (.int .i64 v8) (λ h => st1 ⟨v15, 3, none⟩ (.int .i64 v9) (λ h => st1 ⟨v15, 4, none⟩ (.int .i64 v10) (λ h => st1 ⟨v15, 5, none⟩ (.int .u8 v11) (λ h => st1 ⟨v15, 6, none⟩ (.int .i64 v12) (λ h => st1 ⟨v15, 7, none⟩ (.int .i64 v13) (λ h => (Rq (IsI v14) ((If (!(isNilI v14)) (plK v14 (slV Tryz.prog G (Instr.panic (.iface 182 (.agg #[(.int .i64 v2), v14]))) (λ v17 h => v17 = (.tuple #[]) /\ (S90_k1 G K Kp v15 v1 v2 h)) Kp h)) ((S90_k1 G K Kp v15 v1 v2 h)))))) h) h) h) h) h) h) h) h) h) Kp h
noncomputable def E90 : TE := mkE [R0, R3, R40, R78, R84, R124, R131, R154, R182, R256] false (.any)
theorem T90 : TOk Tryz.prog E90 := mkE_ok (AllOk.mem (⟨R0_ok, R3_ok, R40_ok, R78_ok, R84_ok, R124_ok, R131_ok, R154_ok, R182_ok, R256_ok, trivial⟩ : AllOk Tryz.prog [R0, R3, R40, R78, R84, R124, R131, R154, R182, R256]))
def ann90 : Nat -> LAnn := λ _ => ⟨[], []⟩
theorem vc90 {v1 : Option Addr} {v2 : Int} {v3 : Option Addr} {v4 : Nat} {v5 : Nat} :
  S90 G K Kp v1 v2 v3 v4 v5 h = vcC E90 Tryz.prog G 44 ann90 Kp (bodyOf Tryz.f90) (retQ E90 G Tryz.f90.results.toList K) (frmA (#[(.pointer v1), (.int .i64 v2), (.slice v3 v4 v5)] : Array Value).toList 0) h := by kernel_rfl
theorem b90 : bOk Tryz.prog 90 Tryz.f90 44 ann90 = true := by kernel_rfl
theorem S90_ok {v1 : Option Addr} {v2 : Int} {v3 : Option Addr} {v4 : Nat} {v5 : Nat} (hh : S90 G K Kp v1 v2 v3 v4 v5 h) :
  CallF Tryz.prog G 90 #[(.pointer v1), (.int .i64 v2), (.slice v3 v4 v5)] K Kp h :=
 callF_b T90 hmix Tryz.func90 Tryz.ntmps90 b90 (by kernel_rfl) (Eq.mp vc90 hh)
def S112_k1 (G : Heap) (K : Value -> Heap -> Prop) (Kp : PK) (v1 : Option Addr) (v8 : Nat) (v2 : Int) (v18 : Bool) (h : Heap) : Prop :=
 If v18 ((K (.int .i64 100) h)) ((NN v1 λ v19 => LdSl G h v19 λ v20 v21 v22 => LdI G h .i64 ⟨v8, 0, none⟩ λ v23 => LdI G h .i64 ⟨v8, 1, none⟩ λ v24 => LdI G h .u8 ⟨v8, 2, none⟩ λ v25 => LdI G h .i64 ⟨v8, 3, none⟩ λ v26 => LdI G h .i64 ⟨v8, 4, none⟩ λ v27 => newK G (.cells #[(.int .i64 v2), (.int .i64 v23), (.int .i64 v24), (.int .u8 v25), (.int .i64 v26), (.int .i64 v27)] 225) (λ v28 h => hcell (rd G h) v19 = some (.slice v20 v21 v22) /\ slV Tryz.prog G (Builtin.append_ #[218, 218] 218 #[(.slice v20 v21 v22), (.slice (some ⟨v28, 0, none⟩) 1 1)]) (λ v33 h => ∃ v29 v30 v31, v33 = (.slice v29 v30 v31) /\ NN v1 λ v32 => st1 v32 (.slice v29 v30 v31) (λ h => (NN v1 λ v34 => st1 (ad v34 1) (.int .i64 v2) (λ h => ((K (.int .i64 0) h))) h)) h) Kp h) h))
def S112 (G : Heap) (K : Value -> Heap -> Prop) (Kp : PK) (v1 : Option Addr) (v2 : Int) (v3 : Int) (v4 : Int) (v5 : Int) (v6 : Int) (v7 : Int) (h : Heap) : Prop :=
 newK G (.cells #[(.int .i64 v3), (.int .i64 v4), (.int .u8 v5), (.int .i64 v6), (.int .i64 v7)] 84) (λ v8 h => (LdI G h .i64 ⟨v8, 0, none⟩ λ v9 => LdI G h .i64 ⟨v8, 1, none⟩ λ v10 => LdI G h .u8 ⟨v8, 2, none⟩ λ v11 => LdI G h .i64 ⟨v8, 3, none⟩ λ v12 => LdI G h .i64 ⟨v8, 4, none⟩ λ v13 => CallF Tryz.prog G 106 #[(.agg #[(.int .i64 v9), (.int .i64 v10), (.int .u8 v11), (.int .i64 v12), (.int .i64 v13)])] (λ v15 h => ∃ v14, v15 = (.int .i64 v14) /\ ((If (v14 != 0) ((K (.int .i64 v14) h)) ((NN v1 λ v16 => LdI G h .i64 (ad v16 1) λ v17 => If (decide (v2 <= v17)) ((S112_k1 G K Kp v1 v8 v2 true h)) ((S112_k1 G K Kp v1 v8 v2 (decide (v2 > 4096)) h))))))) Kp h)) h
noncomputable def E112 : TE := mkE [R3, R40, R84, R218, R221, R225] false (.any)
theorem T112 : TOk Tryz.prog E112 := mkE_ok (AllOk.mem (⟨R3_ok, R40_ok, R84_ok, R218_ok, R221_ok, R225_ok, trivial⟩ : AllOk Tryz.prog [R3, R40, R84, R218, R221, R225]))
def ann112 : Nat -> LAnn := λ _ => ⟨[], []⟩
theorem vc112 {v1 : Option Addr} {v2 : Int} {v3 : Int} {v4 : Int} {v5 : Int} {v6 : Int} {v7 : Int} :
  S112 G K Kp v1 v2 v3 v4 v5 v6 v7 h = vcC E112 Tryz.prog G 39 ann112 Kp (bodyOf Tryz.f112) (retQ E112 G Tryz.f112.results.toList K) (frmA (#[(.pointer v1), (.int .i64 v2), (.agg #[(.int .i64 v3), (.int .i64 v4), (.int .u8 v5), (.int .i64 v6), (.int .i64 v7)])] : Array Value).toList 0) h := by kernel_rfl
theorem b112 : bOk Tryz.prog 112 Tryz.f112 39 ann112 = true := by kernel_rfl
theorem S112_ok {v1 : Option Addr} {v2 : Int} {v3 : Int} {v4 : Int} {v5 : Int} {v6 : Int} {v7 : Int} (hh : S112 G K Kp v1 v2 v3 v4 v5 v6 v7 h) :
  CallF Tryz.prog G 112 #[(.pointer v1), (.int .i64 v2), (.agg #[(.int .i64 v3), (.int .i64 v4), (.int .u8 v5), (.int .i64 v6), (.int .i64 v7)])] K Kp h :=
 callF_b T112 hmix Tryz.func112 Tryz.ntmps112 b112 (by kernel_rfl) (Eq.mp vc112 hh)
def S131_k1 (G : Heap) (K : Value -> Heap -> Prop) (Kp : PK) (v9 : Nat) (v1 : Option Addr)  (h : Heap) : Prop :=
 LdI G h .i64 ⟨v9, 0, none⟩ λ v19 => LdI G h .i64 ⟨v9, 1, none⟩ λ v20 => LdI G h .i64 ⟨v9, 2, none⟩ λ v21 => LdI G h .u8 ⟨v9, 3, none⟩ λ v22 => LdI G h .i64 ⟨v9, 4, none⟩ λ v23 => LdI G h .i64 ⟨v9, 5, none⟩ λ v24 => CallF Tryz.prog G 80 #[(.pointer v1), (.agg #[(.int .i64 v19), (.int .i64 v20), (.int .i64 v21), (.int .u8 v22), (.int .i64 v23), (.int .i64 v24)])] (λ v25 h => v25 = (.tuple #[]) /\ K (.tuple #[]) h) Kp h
def S131 (G : Heap) (K : Value -> Heap -> Prop) (Kp : PK) (v1 : Option Addr) (v2 : Int) (v3 : Int) (v4 : Int) (v5 : Int) (v6 : Int) (v7 : Int) (v8 : Int) (h : Heap) : Prop :=
 newK G (.cells #[(.int .i64 v3), (.int .i64 v4), (.int .i64 v5), (.int .u8 v6), (.int .i64 v7), (.int .i64 v8)] 124) (λ v9 h => (LdI G h .i64 ⟨v9, 0, none⟩ λ v10 => LdI G h .i64 ⟨v9, 1, none⟩ λ v11 => LdI G h .i64 ⟨v9, 2, none⟩ λ v12 => LdI G h .u8 ⟨v9, 3, none⟩ λ v13 => LdI G h .i64 ⟨v9, 4, none⟩ λ v14 => LdI G h .i64 ⟨v9, 5, none⟩ λ v15 => CallF Tryz.prog G 79 #[(.pointer v1), (.agg #[(.int .i64 v10), (.int .i64 v11), (.int .i64 v12), (.int .u8 v13), (.int .i64 v14), (.int .i64 v15)])] (λ v17 h => ∃ v16, v17 = (.int .i64 v16) /\ ((If (v16 != 0) (slV Tryz.prog G (Instr.panic (.iface 182 (.agg #[(.int .i64 v2), (.iface 40 (.int .i64 v16))]))) (λ v18 h => v18 = (.tuple #[]) /\ (S131_k1 G K Kp v9 v1 h)) Kp h) ((S131_k1 G K Kp v9 v1 h))))) Kp h)) h
noncomputable def E131 : TE := mkE [R0, R3, R40, R78, R124, R182] false (.any)
theorem T131 : TOk Tryz.prog E131 := mkE_ok (AllOk.mem (⟨R0_ok, R3_ok, R40_ok, R78_ok, R124_ok, R182_ok, trivial⟩ : AllOk Tryz.prog [R0, R3, R40, R78, R124, R182]))
def ann131 : Nat -> LAnn := λ _ => ⟨[], []⟩
theorem vc131 {v1 : Option Addr} {v2 : Int} {v3 : Int} {v4 : Int} {v5 : Int} {v6 : Int} {v7 : Int} {v8 : Int} :
  S131 G K Kp v1 v2 v3 v4 v5 v6 v7 v8 h = vcC E131 Tryz.prog G 20 ann131 Kp (bodyOf Tryz.f131) (retQ E131 G Tryz.f131.results.toList K) (frmA (#[(.pointer v1), (.int .i64 v2), (.agg #[(.int .i64 v3), (.int .i64 v4), (.int .i64 v5), (.int .u8 v6), (.int .i64 v7), (.int .i64 v8)])] : Array Value).toList 0) h := by kernel_rfl
theorem b131 : bOk Tryz.prog 131 Tryz.f131 20 ann131 = true := by kernel_rfl
theorem S131_ok {v1 : Option Addr} {v2 : Int} {v3 : Int} {v4 : Int} {v5 : Int} {v6 : Int} {v7 : Int} {v8 : Int} (hh : S131 G K Kp v1 v2 v3 v4 v5 v6 v7 v8 h) :
  CallF Tryz.prog G 131 #[(.pointer v1), (.int .i64 v2), (.agg #[(.int .i64 v3), (.int .i64 v4), (.int .i64 v5), (.int .u8 v6), (.int .i64 v7), (.int .i64 v8)])] K Kp h :=
 callF_b T131 hmix Tryz.func131 Tryz.ntmps131 b131 (by kernel_rfl) (Eq.mp vc131 hh)
def S101_k1 (G : Heap) (K : Value -> Heap -> Prop) (Kp : PK) (v2 : Nat) (v1 : Option Addr) (v3 : Nat) (v4 : Bool) (h : Heap) : Prop :=
 If v4 ((K (.tuple #[(.slice none 0 0), (.iface 40 (.int .i64 30))]) h)) ((CallF Tryz.prog G 142 #[(.slice none 0 0), (.int .u64 (IntKind.wrap .u64 ((v2 : Nat) : Int)))] (λ v12 h => ∃ v5 v6 v7, v12 = (.slice v5 v6 v7) /\ Rng (65535 - ((v2 : Nat) : Int)) (CallF Tryz.prog G 142 #[(.slice v5 v6 v7), (.int .u64 (IntKind.wrap .u64 (65535 - ((v2 : Nat) : Int))))] (λ v11 h => ∃ v8 v9 v10, v11 = (.slice v8 v9 v10) /\ (slV Tryz.prog G (Builtin.append_ #[49, 49] 49 #[(.slice v8 v9 v10), (.slice v1 v2 v3)]) (λ v20 h => ∃ v13 v14 v15, v20 = (.slice v13 v14 v15) /\ CallF Tryz.prog G 133 #[(.slice v13 v14 v15)] (λ v19 h => ∃ v16 v17 v18, v19 = (.slice v16 v17 v18) /\ (K (.tuple #[(.slice v16 v17 v18), .nilIface]) h)) Kp h) Kp h)) Kp h)) Kp h))
def S101 (G : Heap) (K : Value -> Heap -> Prop) (Kp : PK) (v1 : Option Addr) (v2 : Nat) (v3 : Nat) (h : Heap) : Prop :=
 ((If (decide (((v2 : Nat) : Int) < 1)) ((S101_k1 G K Kp v2 v1 v3 true h)) ((S101_k1 G K Kp v2 v1 v3 (decide (((v2 : Nat) : Int) > 64)) h))))
noncomputable def E101 : TE := mkE [R3, R40, R49, R241] false (.any)
theorem T101 : TOk Tryz.prog E101 := mkE_ok (AllOk.mem (⟨R3_ok, R40_ok, R49_ok, R241_ok, trivial⟩ : AllOk Tryz.prog [R3, R40, R49, R241]))
def ann101 : Nat -> LAnn := λ _ => ⟨[], []⟩
theorem vc101 {v1 : Option Addr} {v2 : Nat} {v3 : Nat} :
  S101 G K Kp v1 v2 v3 h = vcC E101 Tryz.prog G 26 ann101 Kp (bodyOf Tryz.f101) (retQ E101 G Tryz.f101.results.toList K) (frmA (#[(.slice v1 v2 v3)] : Array Value).toList 0) h := by kernel_rfl
theorem b101 : bOk Tryz.prog 101 Tryz.f101 26 ann101 = true := by kernel_rfl
theorem S101_ok {v1 : Option Addr} {v2 : Nat} {v3 : Nat} (hh : S101 G K Kp v1 v2 v3 h) :
  CallF Tryz.prog G 101 #[(.slice v1 v2 v3)] K Kp h :=
 callF_b T101 hmix Tryz.func101 Tryz.ntmps101 b101 (by kernel_rfl) (Eq.mp vc101 hh)
def S164 (G : Heap) (K : Value -> Heap -> Prop) (Kp : PK) (v1 : Option Addr) (h : Heap) : Prop :=
 newK G (.cells #[(.int .i64 0), (.int .i64 0), (.int .u8 0), (.int .i64 0), (.int .i64 0)] 84) (λ v2 h => (NN v1 λ v3 => Rq ((0 : Int) <= 9 /\ 9 < ((14 : Nat) : Int)) (LdI G h .i64 (ad v3 9) λ v4 => NN v1 λ v5 => Rq ((0 : Int) <= 10 /\ 10 < ((14 : Nat) : Int)) (LdI G h .i64 (ad v5 10) λ v6 => NN v1 λ v7 => Rq ((0 : Int) <= 11 /\ 11 < ((14 : Nat) : Int)) (LdI G h .i64 (ad v7 11) λ v8 => NN v1 λ v9 => Rq ((0 : Int) <= 12 /\ 12 < ((14 : Nat) : Int)) (LdI G h .i64 (ad v9 12) λ v10 => NN v1 λ v11 => Rq ((0 : Int) <= 13 /\ 13 < ((14 : Nat) : Int)) (LdI G h .i64 (ad v11 13) λ v12 => st1 ⟨v2, 0, none⟩ (.int .i64 v4) (λ h => st1 ⟨v2, 1, none⟩ (.int .i64 v6) (λ h => st1 ⟨v2, 2, none⟩ (.int .u8 (IntKind.wrap .u8 v8)) (λ h => st1 ⟨v2, 3, none⟩ (.int .i64 v10) (λ h => st1 ⟨v2, 4, none⟩ (.int .i64 v12) (λ h => (LdI G h .i64 ⟨v2, 0, none⟩ λ v13 => LdI G h .i64 ⟨v2, 1, none⟩ λ v14 => LdI G h .u8 ⟨v2, 2, none⟩ λ v15 => LdI G h .i64 ⟨v2, 3, none⟩ λ v16 => LdI G h .i64 ⟨v2, 4, none⟩ λ v17 => K (.agg #[(.int .i64 v13), (.int .i64 v14), (.int .u8 v15), (.int .i64 v16), (.int .i64 v17)]) h)) h) h) h) h) h))))))) h
noncomputable def E164 : TE := mkE [R3, R5, R84, R202] false (.any)
theorem T164 : TOk Tryz.prog E164 := mkE_ok (AllOk.mem (⟨R3_ok, R5_ok, R84_ok, R202_ok, trivial⟩ : AllOk Tryz.prog [R3, R5, R84, R202]))
def ann164 : Nat -> LAnn := λ _ => ⟨[], []⟩
theorem vc164 {v1 : Option Addr} :
  S164 G K Kp v1 h = vcC E164 Tryz.prog G 25 ann164 Kp (bodyOf Tryz.f164) (retQ E164 G Tryz.f164.results.toList K) (frmA (#[(Value.pointer v1)] : Array Value).toList 0) h := by kernel_rfl
theorem b164 : bOk Tryz.prog 164 Tryz.f164 25 ann164 = true := by kernel_rfl
theorem S164_ok {v1 : Option Addr} (hh : S164 G K Kp v1 h) :
  CallF Tryz.prog G 164 #[(Value.pointer v1)] K Kp h :=
 callF_b T164 hmix Tryz.func164 Tryz.ntmps164 b164 (by kernel_rfl) (Eq.mp vc164 hh)
def S49 (G : Heap) (K : Value -> Heap -> Prop) (Kp : PK) (v1 : Option Addr) (h : Heap) : Prop :=
 NN v1 λ v2 => LdSl G h (ad v2 16) λ v3 v4 v5 => NN v1 λ v6 => LdP G h (ad v6 3) λ v7 => CallF Tryz.prog G 51 #[(.pointer v7)] (λ v15 h => ∃ v8, v15 = (.int .i64 v8) /\ hcell (rd G h) (ad v2 16) = some (.slice v3 v4 v5) /\ newK G (.cells #[(.int .i64 v8)] 3) (λ v9 h => hcell (rd G h) (ad v2 16) = some (.slice v3 v4 v5) /\ slV Tryz.prog G (Builtin.append_ #[23, 23] 23 #[(.slice v3 v4 v5), (.slice (some ⟨v9, 0, none⟩) 1 1)]) (λ v14 h => ∃ v10 v11 v12, v14 = (.slice v10 v11 v12) /\ NN v1 λ v13 => st1 (ad v13 16) (.slice v10 v11 v12) (λ h => (NN v1 λ v16 => LdSl G h (ad v16 17) λ v17 v18 v19 => NN v1 λ v20 => LdSl G h (ad v20 15) λ v21 v22 v23 => newK G (.cells #[(.int .i64 ((v22 : Nat) : Int))] 3) (λ v24 h => hcell (rd G h) (ad v16 17) = some (.slice v17 v18 v19) /\ slV Tryz.prog G (Builtin.append_ #[23, 23] 23 #[(.slice v17 v18 v19), (.slice (some ⟨v24, 0, none⟩) 1 1)]) (λ v29 h => ∃ v25 v26 v27, v29 = (.slice v25 v26 v27) /\ NN v1 λ v28 => st1 (ad v28 17) (.slice v25 v26 v27) (λ h => K (.tuple #[]) h) h) Kp h) h)) h) Kp h) h) Kp h
noncomputable def E49 : TE := mkE [R3, R23, R31, R37, R39] false (.any)
theorem T49 : TOk Tryz.prog E49 := mkE_ok (AllOk.mem (⟨R3_ok, R23_ok, R31_ok, R37_ok, R39_ok, trivial⟩ : AllOk Tryz.prog [R3, R23, R31, R37, R39]))
def ann49 : Nat -> LAnn := λ _ => ⟨[], []⟩
theorem vc49 {v1 : Option Addr} :
  S49 G K Kp v1 h = vcC E49 Tryz.prog G 30 ann49 Kp (bodyOf Tryz.f49) (retQ E49 G Tryz.f49.results.toList K) (frmA (#[(.pointer v1)] : Array Value).toList 0) h := by kernel_rfl
theorem b49 : bOk Tryz.prog 49 Tryz.f49 30 ann49 = true := by kernel_rfl
theorem S49_ok {v1 : Option Addr} (hh : S49 G K Kp v1 h) :
  CallF Tryz.prog G 49 #[(.pointer v1)] K Kp h :=
 callF_b T49 hmix Tryz.func49 Tryz.ntmps49 b49 (by kernel_rfl) (Eq.mp vc49 hh)
def S44 (G : Heap) (K : Value -> Heap -> Prop) (Kp : PK) (v1 : Option Addr) (h : Heap) : Prop :=
 (CallF Tryz.prog G 61 #[(.pointer v1)] (λ v4 h => ∃ v2 v3, v4 = (.tuple #[(.pointer v2), v3]) /\ (CallF Tryz.prog G 62 #[(.pointer v2)] (λ v6 h => ∃ v5, v6 = (.pointer v5) /\ (CallF Tryz.prog G 64 #[(.pointer v2)] (λ v13 h => ∃ v7 v8 v9, v13 = (.slice v7 v8 v9) /\ CallF Tryz.prog G 63 #[(.pointer v5), (.slice v7 v8 v9)] (λ v12 h => ∃ v10 v11, v12 = (.tuple #[(.int .i64 v10), v11]) /\ (Rq (IsI v11) ((If (!(isNilI v11)) (CallF Tryz.prog G 65 #[(.pointer v2), (.int .i64 v10)] (λ v15 h => ∃ v14, v15 = v14 /\ (CallF Tryz.prog G 51 #[(.pointer v1)] (λ v18 h => ∃ v16, v18 = (.int .i64 v16) /\ plK v11 (newK G (.cells #[(.int .i64 v16), v11] 136) (λ v17 h => (K (.tuple #[(.pointer v5), (.iface 134 (.pointer (some ⟨v17, 0, none⟩)))]) h)) h)) Kp h)) Kp h) (((K (.tuple #[(.pointer v5), v3]) h))))))) Kp h) Kp h)) Kp h)) Kp h)
noncomputable def E44 : TE := mkE [R3, R32, R78, R134, R136, R137, R140, R142] false (.any)
theorem T44 : TOk Tryz.prog E44 := mkE_ok (AllOk.mem (⟨R3_ok, R32_ok, R78_ok, R134_ok, R136_ok, R137_ok, R140_ok, R142_ok, trivial⟩ : AllOk Tryz.prog [R3, R32, R78, R134, R136, R137, R140, R142]))
def ann44 : Nat -> LAnn := λ _ => ⟨[], []⟩
theorem vc44 {v1 : Option Addr} :
  S44 G K Kp v1 h = vcC E44 Tryz.prog G 37 ann44 Kp (bodyOf Tryz.f44) (retQ E44 G Tryz.f44.results.toList K) (frmA (#[(.pointer v1)] : Array Value).toList 0) h := by kernel_rfl
theorem b44 : bOk Tryz.prog 44 Tryz.f44 37 ann44 = true := by kernel_rfl
theorem S44_ok {v1 : Option Addr} (hh : S44 G K Kp v1 h) :
  CallF Tryz.prog G 44 #[(.pointer v1)] K Kp h :=
 callF_b T44 hmix Tryz.func44 Tryz.ntmps44 b44 (by kernel_rfl) (Eq.mp vc44 hh)
def S166 (G : Heap) (K : Value -> Heap -> Prop) (Kp : PK) (v1 : Option Addr) (v2 : Nat) (v3 : Nat) (v4 : Option Addr) (v5 : Nat) (v6 : Nat) (h : Heap) : Prop :=
 (Rng (((v2 : Nat) : Int) + ((v5 : Nat) : Int)) (slV Tryz.prog G (Instr.makeSlice 49 (.int .i64 (((v2 : Nat) : Int) + ((v5 : Nat) : Int))) (.int .i64 (((v2 : Nat) : Int) + ((v5 : Nat) : Int)))) (λ v10 h => ∃ v7 v8 v9, v10 = (.slice v7 v8 v9) /\ (slV Tryz.prog G (Builtin.copy_ #[49, 49] 3 #[(.slice v7 v8 v9), (.slice v1 v2 v3)]) (λ v14 h => ∃ v11, v14 = (.int .i64 v11) /\ Rq ((0 : Int) <= v11 /\ v11 <= (v8 : Int)) (slV Tryz.prog G (Builtin.copy_ #[49, 49] 3 #[(.slice (subA v7 (Int.toNat v11) v9 1) (v8 - (Int.toNat v11)) (v9 - (Int.toNat v11))), (.slice v4 v5 v6)]) (λ v13 h => ∃ v12, v13 = (.int .i64 v12) /\ ((K (.slice v7 v8 v9) h))) Kp h)) Kp h)) Kp h))
noncomputable def E166 : TE := mkE [R3, R5, R49] false (.any)
theorem T166 : TOk Tryz.prog E166 := mkE_ok (AllOk.mem (⟨R3_ok, R5_ok, R49_ok, trivial⟩ : AllOk Tryz.prog [R3, R5, R49]))
def ann166 : Nat -> LAnn := λ _ => ⟨[], []⟩
theorem vc166 {v1 : Option Addr} {v2 : Nat} {v3 : Nat} {v4 : Option Addr} {v5 : Nat} {v6 : Nat} :
  S166 G K Kp v1 v2 v3 v4 v5 v6 h = vcC E166 Tryz.prog G 20 ann166 Kp (bodyOf Tryz.f166) (retQ E166 G Tryz.f166.results.toList K) (frmA (#[(.slice v1 v2 v3), (.slice v4 v5 v6)] : Array Value).toList 0) h := by kernel_rfl
theorem b166 : bOk Tryz.prog 166 Tryz.f166 20 ann166 = true := by kernel_rfl
theorem S166_ok {v1 : Option Addr} {v2 : Nat} {v3 : Nat} {v4 : Option Addr} {v5 : Nat} {v6 : Nat} (hh : S166 G K Kp v1 v2 v3 v4 v5 v6 h) :
  CallF Tryz.prog G 166 #[(.slice v1 v2 v3), (.slice v4 v5 v6)] K Kp h :=
 callF_b T166 hmix Tryz.func166 Tryz.ntmps166 b166 (by kernel_rfl) (Eq.mp vc166 hh)
def S87_k1 (G : Heap) (K : Value -> Heap -> Prop) (Kp : PK) (v1 : Option Addr) (v2 : Int) (v7 : Bool) (h : Heap) : Prop :=
 If v7 ((K (.int .i64 23) h)) ((NN v1 λ v8 => LdI G h .i64 (ad v8 1) λ v9 => NN v1 λ v10 => st1 (ad v10 1) (.int .i64 (minI v9 v2)) (λ h => (NN v1 λ v11 => LdSl G h v11 λ v12 v13 v14 => Rq ((0 : Int) <= v2 /\ v2 <= (v14 : Int)) (NN v1 λ v15 => st1 v15 (.slice v12 (Int.toNat v2) v14) (λ h => ((K (.int .i64 0) h))) h))) h))
def S87 (G : Heap) (K : Value -> Heap -> Prop) (Kp : PK) (v1 : Option Addr) (v2 : Int) (h : Heap) : Prop :=
 (If (decide (v2 < 0)) ((S87_k1 G K Kp v1 v2 true h)) (NN v1 λ v3 => LdSl G h v3 λ v4 v5 v6 => (S87_k1 G K Kp v1 v2 (decide (v2 > ((v5 : Nat) : Int))) h)))
noncomputable def E87 : TE := mkE [R3, R5, R49, R98] false (.any)
theorem T87 : TOk Tryz.prog E87 := mkE_ok (AllOk.mem (⟨R3_ok, R5_ok, R49_ok, R98_ok, trivial⟩ : AllOk Tryz.prog [R3, R5, R49, R98]))
def ann87 : Nat -> LAnn := λ _ => ⟨[], []⟩
theorem vc87 {v1 : Option Addr} {v2 : Int} :
  S87 G K Kp v1 v2 h = vcC E87 Tryz.prog G 34 ann87 Kp (bodyOf Tryz.f87) (retQ E87 G Tryz.f87.results.toList K) (frmA (#[(.pointer v1), (.int .i64 v2)] : Array Value).toList 0) h := by kernel_rfl
theorem b87 : bOk Tryz.prog 87 Tryz.f87 34 ann87 = true := by kernel_rfl
theorem S87_ok {v1 : Option Addr} {v2 : Int} (hh : S87 G K Kp v1 v2 h) :
  CallF Tryz.prog G 87 #[(.pointer v1), (.int .i64 v2)] K Kp h :=
 callF_b T87 hmix Tryz.func87 Tryz.ntmps87 b87 (by kernel_rfl) (Eq.mp vc87 hh)
def S175_k1 (G : Heap) (K : Value -> Heap -> Prop) (Kp : PK) (v2 : Int)  (h : Heap) : Prop :=
 (K (.int .i64 v2) h)
def S175 (G : Heap) (K : Value -> Heap -> Prop) (Kp : PK) (v1 : Option Addr) (h : Heap) : Prop :=
 (CallF Tryz.prog G 174 #[(.pointer v1)] (λ v3 h => ∃ v2, v3 = (.int .i64 v2) /\ ((If (v2 == 0) (NN v1 λ v4 => LdI G h .i64 (ad v4 1) λ v5 => Rng (v5 + 1) (NN v1 λ v6 => st1 (ad v6 1) (.int .i64 (v5 + 1)) (λ h => (S175_k1 G K Kp v2 h)) h)) ((S175_k1 G K Kp v2 h))))) Kp h)
noncomputable def E175 : TE := mkE [R3, R40, R264] false (.any)
theorem T175 : TOk Tryz.prog E175 := mkE_ok (AllOk.mem (⟨R3_ok, R40_ok, R264_ok, trivial⟩ : AllOk Tryz.prog [R3, R40, R264]))
def ann175 : Nat -> LAnn := λ _ => ⟨[], []⟩
theorem vc175 {v1 : Option Addr} :
  S175 G K Kp v1 h = vcC E175 Tryz.prog G 16 ann175 Kp (bodyOf Tryz.f175) (retQ E175 G Tryz.f175.results.toList K) (frmA (#[(.pointer v1)] : Array Value).toList 0) h := by kernel_rfl
theorem b175 : bOk Tryz.prog 175 Tryz.f175 16 ann175 = true := by kernel_rfl
theorem S175_ok {v1 : Option Addr} (hh : S175 G K Kp v1 h) :
  CallF Tryz.prog G 175 #[(.pointer v1)] K Kp h :=
 callF_b T175 hmix Tryz.func175 Tryz.ntmps175 b175 (by kernel_rfl) (Eq.mp vc175 hh)
def S54 (G : Heap) (K : Value -> Heap -> Prop) (Kp : PK) (v1 : Option Addr) (h : Heap) : Prop :=
 (CallF Tryz.prog G 77 #[(.pointer v1)] (λ v3 h => ∃ v2, v3 = (.int .i64 v2) /\ (NN v1 λ v4 => LdP G h v4 λ v5 => CallF Tryz.prog G 78 #[(.pointer v5)] (λ v7 h => ∃ v6, v7 = (.int .i64 v6) /\ (CallF Tryz.prog G 77 #[(.pointer v1)] (λ v9 h => ∃ v8, v9 = (.int .i64 v8) /\ Rng (v8 - v2) ((K (.int .i64 (v8 - v2)) h))) Kp h)) Kp h)) Kp h)
noncomputable def E54 : TE := mkE [R3, R127, R131] false (.any)
theorem T54 : TOk Tryz.prog E54 := mkE_ok (AllOk.mem (⟨R3_ok, R127_ok, R131_ok, trivial⟩ : AllOk Tryz.prog [R3, R127, R131]))
def ann54 : Nat -> LAnn := λ _ => ⟨[], []⟩
theorem vc54 {v1 : Option Addr} :
  S54 G K Kp v1 h = vcC E54 Tryz.prog G 15 ann54 Kp (bodyOf Tryz.f54) (retQ E54 G Tryz.f54.results.toList K) (frmA (#[(.pointer v1)] : Array Value).toList 0) h := by kernel_rfl
theorem b54 : bOk Tryz.prog 54 Tryz.f54 15 ann54 = true := by kernel_rfl
theorem S54_ok {v1 : Option Addr} (hh : S54 G K Kp v1 h) :
  CallF Tryz.prog G 54 #[(.pointer v1)] K Kp h :=
 callF_b T54 hmix Tryz.func54 Tryz.ntmps54 b54 (by kernel_rfl) (Eq.mp vc54 hh)
def S141 (G : Heap) (K : Value -> Heap -> Prop) (Kp : PK) (v1 : Option Addr) (v2 : Nat) (v3 : Nat) (v4 : Int) (h : Heap) : Prop :=
 (newK G (.cells #[(.int .u8 (IntKind.wrap .u8 v4))] 5) (λ v5 h => CallF Tryz.prog G 166 #[(.slice v1 v2 v3), (.slice (some ⟨v5, 0, none⟩) 1 1)] (λ v9 h => ∃ v6 v7 v8, v9 = (.slice v6 v7 v8) /\ (K (.slice v6 v7 v8) h)) Kp h) h)
noncomputable def E141 : TE := mkE [R5, R49, R241] false (.any)
theorem T141 : TOk Tryz.prog E141 := mkE_ok (AllOk.mem (⟨R5_ok, R49_ok, R241_ok, trivial⟩ : AllOk Tryz.prog [R5, R49, R241]))
def ann141 : Nat -> LAnn := λ _ => ⟨[], []⟩
theorem vc141 {v1 : Option Addr} {v2 : Nat} {v3 : Nat} {v4 : Int} :
  S141 G K Kp v1 v2 v3 v4 h = vcC E141 Tryz.prog G 10 ann141 Kp (bodyOf Tryz.f141) (retQ E141 G Tryz.f141.results.toList K) (frmA (#[(.slice v1 v2 v3), (.int .u64 v4)] : Array Value).toList 0) h := by kernel_rfl
theorem b141 : bOk Tryz.prog 141 Tryz.f141 10 ann141 = true := by kernel_rfl
theorem S141_ok {v1 : Option Addr} {v2 : Nat} {v3 : Nat} {v4 : Int} (hh : S141 G K Kp v1 v2 v3 v4 h) :
  CallF Tryz.prog G 141 #[(.slice v1 v2 v3), (.int .u64 v4)] K Kp h :=
 callF_b T141 hmix Tryz.func141 Tryz.ntmps141 b141 (by kernel_rfl) (Eq.mp vc141 hh)
def S16_k1 (G : Heap) (K : Value -> Heap -> Prop) (Kp : PK)  (v3 : Int) (h : Heap) : Prop :=
 (K (.int .i64 v3) h)
def S16 (G : Heap) (K : Value -> Heap -> Prop) (Kp : PK) (v1 : Int) (v2 : Int) (h : Heap) : Prop :=
 (Rq ((v2 : Int) ≠ 0) (((If (decide ((Int.tmod v1 v2) < 0)) (Rng ((Int.tmod v1 v2) + v2) ((S16_k1 G K Kp ((Int.tmod v1 v2) + v2) h))) ((S16_k1 G K Kp (Int.tmod v1 v2) h))))))
noncomputable def E16 : TE := mkE [] false (.any)
theorem T16 : TOk Tryz.prog E16 := mkE_ok (AllOk.mem (trivial : AllOk Tryz.prog []))
def ann16 : Nat -> LAnn := λ _ => ⟨[], []⟩
theorem vc16 {v1 : Int} {v2 : Int} :
  S16 G K Kp v1 v2 h = vcC E16 Tryz.prog G 15 ann16 Kp (bodyOf Tryz.f16) (retQ E16 G Tryz.f16.results.toList K) (frmA (#[(.int .i64 v1), (.int .i64 v2)] : Array Value).toList 0) h := by kernel_rfl
theorem b16 : bOk Tryz.prog 16 Tryz.f16 15 ann16 = true := by kernel_rfl
theorem S16_ok {v1 : Int} {v2 : Int} (hh : S16 G K Kp v1 v2 h) :
  CallF Tryz.prog G 16 #[(.int .i64 v1), (.int .i64 v2)] K Kp h :=
 callF_b T16 hmix Tryz.func16 Tryz.ntmps16 b16 (by kernel_rfl) (Eq.mp vc16 hh)
def S176 (G : Heap) (K : Value -> Heap -> Prop) (Kp : PK) (v1 : Option Addr) (h : Heap) : Prop :=
 (NN v1 λ v2 => LdI G h .i64 (ad v2 1) λ v3 => NN v1 λ v4 => LdSl G h (ad v4 3) λ v5 v6 v7 => Rng (v3 + ((v6 : Nat) : Int)) ((K (.int .i64 (v3 + ((v6 : Nat) : Int))) h)))
noncomputable def E176 : TE := mkE [R3, R33, R261] false (.any)
theorem T176 : TOk Tryz.prog E176 := mkE_ok (AllOk.mem (⟨R3_ok, R33_ok, R261_ok, trivial⟩ : AllOk Tryz.prog [R3, R33, R261]))
def ann176 : Nat -> LAnn := λ _ => ⟨[], []⟩
theorem vc176 {v1 : Option Addr} :
  S176 G K Kp v1 h = vcC E176 Tryz.prog G 13 ann176 Kp (bodyOf Tryz.f176) (retQ E176 G Tryz.f176.results.toList K) (frmA (#[(.pointer v1)] : Array Value).toList 0) h := by kernel_rfl
theorem b176 : bOk Tryz.prog 176 Tryz.f176 13 ann176 = true := by kernel_rfl
theorem S176_ok {v1 : Option Addr} (hh : S176 G K Kp v1 h) :
  CallF Tryz.prog G 176 #[(.pointer v1)] K Kp h :=
 callF_b T176 hmix Tryz.func176 Tryz.ntmps176 b176 (by kernel_rfl) (Eq.mp vc176 hh)
def S88 (G : Heap) (K : Value -> Heap -> Prop) (Kp : PK) (v1 : Bool) (h : Heap) : Prop :=
 (newK G (.cells #[(.slice none 0 0), (.int .i64 0), (.bool v1)] 223) (λ v2 h => (K (.pointer (some ⟨v2, 0, none⟩)) h)) h)
noncomputable def E88 : TE := mkE [R4, R221, R223] false (.any)
theorem T88 : TOk Tryz.prog E88 := mkE_ok (AllOk.mem (⟨R4_ok, R221_ok, R223_ok, trivial⟩ : AllOk Tryz.prog [R4, R221, R223]))
def ann88 : Nat -> LAnn := λ _ => ⟨[], []⟩
theorem vc88 {v1 : Bool} :
  S88 G K Kp v1 h = vcC E88 Tryz.prog G 6 ann88 Kp (bodyOf Tryz.f88) (retQ E88 G Tryz.f88.results.toList K) (frmA (#[(.bool v1)] : Array Value).toList 0) h := by kernel_rfl
theorem b88 : bOk Tryz.prog 88 Tryz.f88 6 ann88 = true := by kernel_rfl
theorem S88_ok {v1 : Bool} (hh : S88 G K Kp v1 h) :
  CallF Tryz.prog G 88 #[(.bool v1)] K Kp h :=
 callF_b T88 hmix Tryz.func88 Tryz.ntmps88 b88 (by kernel_rfl) (Eq.mp vc88 hh)
def S233 (G : Heap) (K : Value -> Heap -> Prop) (Kp : PK) (v1 : Int) (v2 : Int) (v3 : Bool) (h : Heap) : Prop :=
 ((K (.tuple #[(.int .i64 v1), (.bool true)]) h))
noncomputable def E233 : TE := mkE [] false (.any)
theorem T233 : TOk Tryz.prog E233 := mkE_ok (AllOk.mem (trivial : AllOk Tryz.prog []))
def ann233 : Nat -> LAnn := λ _ => ⟨[], []⟩
theorem vc233 {v1 : Int} {v2 : Int} {v3 : Bool} :
  S233 G K Kp v1 v2 v3 h = vcC E233 Tryz.prog G 9 ann233 Kp (bodyOf Tryz.f233) (retQ E233 G Tryz.f233.results.toList K) (frmA (#[(.int .i64 v1), (.int .i64 v2), (.bool v3)] : Array Value).toList 0) h := by kernel_rfl
theorem b233 : bOk Tryz.prog 233 Tryz.f233 9 ann233 = true := by kernel_rfl
theorem S233_ok {v1 : Int} {v2 : Int} {v3 : Bool} (hh : S233 G K Kp v1 v2 v3 h) :
  CallF Tryz.prog G 233 #[(.int .i64 v1), (.int .i64 v2), (.bool v3)] K Kp h :=
 callF_b T233 hmix Tryz.func233 Tryz.ntmps233 b233 (by kernel_rfl) (Eq.mp vc233 hh)
def S168 (G : Heap) (K : Value -> Heap -> Prop) (Kp : PK) (v1 : Option Addr) (h : Heap) : Prop :=
 (NN v1 λ v2 => LdI G h .i64 (ad v2 2) λ v3 => (K (.int .i64 v3) h))
noncomputable def E168 : TE := mkE [R3, R261] false (.any)
theorem T168 : TOk Tryz.prog E168 := mkE_ok (AllOk.mem (⟨R3_ok, R261_ok, trivial⟩ : AllOk Tryz.prog [R3, R261]))
def ann168 : Nat -> LAnn := λ _ => ⟨[], []⟩
theorem vc168 {v1 : Option Addr} :
  S168 G K Kp v1 h = vcC E168 Tryz.prog G 7 ann168 Kp (bodyOf Tryz.f168) (retQ E168 G Tryz.f168.results.toList K) (frmA (#[(.pointer v1)] : Array Value).toList 0) h := by kernel_rfl
theorem b168 : bOk Tryz.prog 168 Tryz.f168 7 ann168 = true := by kernel_rfl
theorem S168_ok {v1 : Option Addr} (hh : S168 G K Kp v1 h) :
  CallF Tryz.prog G 168 #[(.pointer v1)] K Kp h :=
 callF_b T168 hmix Tryz.func168 Tryz.ntmps168 b168 (by kernel_rfl) (Eq.mp vc168 hh)
end Go.Sl
set_option maxRecDepth 100000
namespace Go.Sl
open Go Go.Proofs
variable {G h : Heap} {L R : List Heap} {K : Value -> Heap -> Prop} {Kp : PK}
def eU8 : En UInt8 := ⟨5, 1, λ b => [.int .u8 b.toNat], 0⟩
theorem eU8_ok : eU8.Ok := ⟨λ _ => rfl, by decide, λ x v hv => by simp [eU8] at hv; subst hv; rfl⟩
theorem tU8 : SlT Tryz.prog 49 eU8 := ⟨eU8_ok, rfl, ⟨_, rfl, rfl, by decide, _, rfl, rfl⟩⟩
def eU32 : En Int := ⟨239, 1, λ b => [.int .u32 b], 0⟩
theorem eU32_ok : eU32.Ok := ⟨λ _ => rfl, by decide, λ x v hv => by simp [eU32] at hv; subst hv; rfl⟩
def tabL : List Int := [0, 498536548, 997073096, 651767980, 1994146192, 1802195444, 1303535960, 1342533948, 3988292384, 4027552580, 3604390888, 3412177804, 2607071920, 2262029012, 2685067896, 3183342108]
def tab (i : Int) : Int := tabL.getD i.toNat 0
def crcS (r : Int) (c : UInt8) : Int :=
 let x := bitsI .xor .u32 r (IntKind.wrap .u32 c.toNat)
 let y := bitsI .xor .u32 (Int.fdiv x (2 ^ 4)) (tab (bitsI .and .u32 x 15))
 bitsI .xor .u32 (Int.fdiv y (2 ^ 4)) (tab (bitsI .and .u32 y 15))
def crc (bs : List UInt8) : Int := bitsI .xor .u32 (if IntKind.signed .u32 = true then -1 else IntKind.max .u32) (bs.foldl crcS 4294967295)
structure Gl (G : Heap) : Prop where
 table : ∃ t z, G 5 = some (.cells (eU32.F tabL).toArray t z)
 et : ∃ t z, G 2 = some (.cells #[.iface 291 (.agg #[.pointer (some ⟨7, 78, none⟩)])] t z)
theorem and15 (x : Int) : 0 <= bitsI .and .u32 x 15 /\ bitsI .and .u32 x 15 < 16 := by
 have h : ((BitVec.ofInt 32 x &&& BitVec.ofInt 32 15).toNat) <= 15 := by
  rw [BitVec.toNat_and]; exact Nat.and_le_right
 have e : bitsI .and .u32 x 15 = IntKind.u32.wrap ((BitVec.ofInt 32 x &&& BitVec.ofInt 32 15).toNat) := rfl
 have w : ∀ n : Nat, n <= 15 -> IntKind.u32.wrap n = n := by
  intro n hn
  have : n = 0 ∨ n = 1 ∨ n = 2 ∨ n = 3 ∨ n = 4 ∨ n = 5 ∨ n = 6 ∨ n = 7 ∨ n = 8 ∨ n = 9 ∨ n = 10 ∨ n = 11 ∨ n = 12 ∨ n = 13 ∨ n = 14 ∨ n = 15 := by omega
  rcases this with h | h | h | h | h | h | h | h | h | h | h | h | h | h | h | h <;> subst h <;> rfl
 rw [e, w _ h]; omega
theorem tab_cell (hO : Own G h L) (hG : Gl G) {i : Int} (hi : 0 <= i /\ i < 16) : hcell (rd G h) ((⟨5, 0, none⟩ : Addr).add (i.toNat * 1)) = some (.int .u32 (tab i)) := by
 obtain ⟨t, z, hg⟩ := hG.table
 rw [add_mk]
 refine glob_cell hO hg ?_
 have hi2 : i.toNat < 16 := by omega
 simp only [ocell, Option.isSome_none, Bool.false_eq_true, if_false, List.getElem?_toArray]
 have := En.F_get eU32_ok (xs := tabL) (i := i.toNat) (j := 0) (x := tab i) (by unfold tab; rw [List.getD_eq_getElem?_getD]; rw [List.getElem?_eq_getElem (by exact hi2)]; rfl) (by decide)
 rw [show (0 : Nat) + i.toNat * 1 = i.toNat * eU32.m + 0 by simp [eU32], this]; rfl
theorem octSum {p : Option Addr} {l c : Nat} {bs : List UInt8} (hG : Gl G) (hO : Own G h L) (hr : Rdl L eU8 p l bs) (hsm : l <= 4294967296)
  (hK : K (.int .u32 (crc bs)) h) : CallF Tryz.prog G 165 #[.slice p l c] K Kp h := by
 refine S165_ok ?_
 have hl := hr.len hO
 unfold S165
 refine LoopS.go (λ vs h' => h' = h /\ ∃ n : Nat, n <= l /\ vs = [.int .u32 ((bs.take n).foldl crcS 4294967295), .int .i64 n]) (λ vs _ => match vs with | [_, .int _ n] => (l - n).toNat | _ => 0) ⟨rfl, 0, by omega, by simp⟩ ?_
 rintro jv vs h' ⟨rfl, n, hn, rfl⟩
 unfold S165_l3
 refine ⟨_, _, rfl, ?_⟩
 refine If.dec (λ hlt => ?_) (λ hlt => ?_)
 ·refine Rq.go ⟨by omega, hlt⟩ ?_
  obtain ⟨x, hx, hn'⟩ := hr.at eU8_ok hO (i := (n : Int)) (by omega) hlt
  refine hn' _ λ a _ hc => ?_
  refine LdI.i (hc 0 _ rfl) ?_
  refine Rq.go (by omega) (Rq.go (and15 _) (LdI.i (tab_cell hO hG (and15 _)) (Rq.go (by omega) (Rq.go (and15 _) (LdI.i (tab_cell hO hG (and15 _)) (Rng.go (by omega) ?_))))))
  refine ⟨⟨rfl, n + 1, by omega, ?_⟩, ?_⟩
  ·have hx' : bs[n]? = some x := by simpa using hx
   have : bs.take (n + 1) = bs.take n ++ [x] := by
    rw [List.take_add_one, hx']; rfl
   rw [this, List.foldl_append]
   rfl
  ·simp only; omega
 ·unfold S165_k1
  have : n = l := by omega
  subst this
  rw [hl, List.take_length]
  exact hK
end Go.Sl
set_option maxRecDepth 100000
namespace Go.Sl
open Go Go.Proofs
variable {G h : Heap} {L R : List Heap} {K : Value -> Heap -> Prop} {Kp : PK}
theorem wrap8 (n : Int) : 0 <= IntKind.u8.wrap n /\ IntKind.u8.wrap n < 256 := by
 have h : IntKind.u8.wrap n = n % 256 := by
  simp [IntKind.wrap, IntKind.signed, IntKind.bits]
 rw [h]; omega
def byt (n : Int) : UInt8 := UInt8.ofNat (IntKind.u8.wrap n).toNat
theorem byt_nat (n : Int) : ((byt n).toNat : Int) = IntKind.u8.wrap n := by
 have := wrap8 n
 unfold byt
 rw [UInt8.toNat_ofNat']
 omega
theorem octWith {p p2 : Option Addr} {l c l2 c2 : Nat} {bs ms : List UInt8} (hO : Own G h L) (hr : Rdl L eU8 p l bs) (hr2 : Rdl L eU8 p2 l2 ms) (hsm : l + l2 <= 4294967296)
  (hK : ∀ h' b pc, Sli eU8 (some ⟨b, 0, none⟩) (l + l2) (l + l2) (bs ++ ms) pc -> Own G h' (pc :: L) -> K (.slice (some ⟨b, 0, none⟩) (l + l2) (l + l2)) h') : CallF Tryz.prog G 166 #[.slice p l c, .slice p2 l2 c2] K Kp h := by
 refine S166_ok ?_
 have hl := hr.len hO
 have hl2 := hr2.len hO
 unfold S166
 refine Rng.go (by omega) ?_
 refine make_go tU8 hO (by omega) (by omega) (by omega) λ h b pc hs hO => ?_
 rw [show ((l : Int) + (l2 : Int)).toNat = l + l2 by omega] at hs ⊢
 refine ⟨_, _, _, rfl, ?_⟩
 refine copy_go tU8 hO (.refl _) hs (hr G h hO.tail) 0 (by omega) (λ h pc' hs hO => ?_) (by simp [Addr.add]) (by omega)
 refine ⟨_, rfl, Rq.go (by omega) ?_⟩
 rw [Int.toNat_natCast]
 have hsub : (if 0 < l2 then subA (some ⟨b, 0, none⟩) l (l + l2) 1 else subA (some ⟨b, 0, none⟩) l (l + l2) 1) = subA (some ⟨b, 0, none⟩) l (l + l2) 1 := by simp
 by_cases h0 : l2 = 0
 ·subst h0
  have hms : ms = [] := List.length_eq_zero_iff.1 hl2.symm
  subst hms
  simp only [subA, Nat.add_zero, if_true]
  refine copy_go tU8 hO (.refl _) hs (hr2 G h hO.tail) 0 (by omega) (λ h pc'' hs hO => ?_) (by simp [Addr.add]) (by omega)
  refine ⟨_, rfl, hK _ _ _ ?_ hO⟩
  simp only [Nat.add_zero, Nat.zero_add, List.take_zero, List.nil_append, List.append_nil, List.drop_zero] at hs ⊢
  rw [List.drop_eq_nil_of_le (by simp <;> omega), List.append_nil] at hs
  exact hs
 ·simp only [subA, if_neg (show ¬ l + l2 = l by omega)]
  refine copy_go tU8 hO (.refl _) hs (hr2 G h hO.tail) l (by omega) (λ h pc'' hs hO => ?_) (by simp [eU8]) (by omega)
  refine ⟨_, rfl, hK _ _ _ ?_ hO⟩
  have e : (List.take l (List.take 0 (List.replicate (l + l2) eU8.z) ++ bs ++ List.drop (0 + l) (List.replicate (l + l2) eU8.z)) ++ ms ++ List.drop (l + l2) (List.take 0 (List.replicate (l + l2) eU8.z) ++ bs ++ List.drop (0 + l) (List.replicate (l + l2) eU8.z))) = bs ++ ms := by
   rw [List.take_zero, List.nil_append, List.take_append_of_le_length (by omega), hl, List.take_length, List.drop_eq_nil_of_le (by simp <;> omega), List.append_nil]
  rw [e] at hs
  exact hs
theorem octWithLit {p : Option Addr} {l c b n : Nat} {bs ms : List UInt8} {cs : Array Value} {t : TypeId} {z : Nat × Nat} (hO : Own G h (single b (.cells cs t z) :: L)) (hr : Rdl L eU8 p l bs) (hcs : cs = (eU8.F ms).toArray) (hn : n = ms.length) (hsm : l + n <= 4294967296)
  (hK : ∀ h' b pc, Sli eU8 (some ⟨b, 0, none⟩) (l + n) (l + n) (bs ++ ms) pc -> Own G h' (pc :: L) -> K (.slice (some ⟨b, 0, none⟩) (l + n) (l + n)) h') : CallF Tryz.prog G 166 #[.slice p l c, .slice (some ⟨b, 0, none⟩) n n] K Kp h :=
 octWith hO (hr.cons _) (Rdl.lit (by rw [hcs]) hn) hsm λ h' b' pc hs hO => hK h' b' pc hs hO.drop2
theorem octPut8 {p : Option Addr} {l c : Nat} {bs : List UInt8} {n : Int} (hO : Own G h L) (hr : Rdl L eU8 p l bs) (hsm : l + 1 <= 4294967296)
  (hK : ∀ h' b pc, Sli eU8 (some ⟨b, 0, none⟩) (l + 1) (l + 1) (bs ++ [byt n]) pc -> Own G h' (pc :: L) -> K (.slice (some ⟨b, 0, none⟩) (l + 1) (l + 1)) h') : CallF Tryz.prog G 141 #[.slice p l c, .int .u64 n] K Kp h := by
 refine S141_ok ?_
 unfold S141
 refine newK.go hO ?_
 intro r h hO
 refine octWithLit hO hr (ms := [byt n]) (by simp [En.F, eU8, byt_nat]) rfl hsm λ h b pc hs hO => ?_
 exact ⟨_, _, _, rfl, hK _ _ _ hs hO⟩
theorem octPut16 {p : Option Addr} {l c : Nat} {bs : List UInt8} {n : Int} (hO : Own G h L) (hr : Rdl L eU8 p l bs) (hsm : l + 2 <= 4294967296)
  (hK : ∀ h' b pc, Sli eU8 (some ⟨b, 0, none⟩) (l + 2) (l + 2) (bs ++ [byt (Int.fdiv n (2 ^ 8)), byt n]) pc -> Own G h' (pc :: L) -> K (.slice (some ⟨b, 0, none⟩) (l + 2) (l + 2)) h') : CallF Tryz.prog G 142 #[.slice p l c, .int .u64 n] K Kp h := by
 refine S142_ok ?_
 unfold S142
 refine Rq.go (by omega) (newK.go hO ?_)
 intro r h hO
 refine octWithLit hO hr (ms := [byt (Int.fdiv n (2 ^ 8)), byt n]) (by simp [En.F, eU8, byt_nat]) rfl hsm λ h b pc hs hO => ?_
 exact ⟨_, _, _, rfl, hK _ _ _ hs hO⟩
def sum4 (s : Int) : List UInt8 := [byt s, byt (Int.fdiv s (2 ^ 8)), byt (Int.fdiv s (2 ^ 16)), byt (Int.fdiv s (2 ^ 24))]
theorem octSeal {p : Option Addr} {l c : Nat} {bs : List UInt8} (hG : Gl G) (hO : Own G h L) (hr : Rdl L eU8 p l bs) (hsm : l + 4 <= 4294967296)
  (hK : ∀ h' b pc, Sli eU8 (some ⟨b, 0, none⟩) (l + 4) (l + 4) (bs ++ sum4 (crc bs)) pc -> Own G h' (pc :: L) -> K (.slice (some ⟨b, 0, none⟩) (l + 4) (l + 4)) h') : CallF Tryz.prog G 133 #[.slice p l c] K Kp h := by
 refine S133_ok ?_
 unfold S133
 refine octSum hG hO hr (by omega) ?_
 refine ⟨_, rfl, Rq.go (by omega) (Rq.go (by omega) (Rq.go (by omega) (newK.go hO ?_)))⟩
 intro r h hO
 refine octWithLit hO hr (ms := sum4 (crc bs)) (by simp [En.F, eU8, sum4, byt_nat]) rfl hsm λ h b pc hs hO => ?_
 exact ⟨_, _, _, rfl, hK _ _ _ hs hO⟩
theorem octOpen {b o l c : Nat} {bs : List UInt8} (hG : Gl G) (hO : Own G h L) (hr : Rdl L eU8 (some ⟨b, o, none⟩) l (bs ++ sum4 (crc bs))) (hc : l <= c) (hsm : l <= 4294967296)
  (hK : ∀ h' b pc, Sli eU8 (some ⟨b, 0, none⟩) bs.length bs.length bs pc -> Own G h' (pc :: L) -> K (.tuple #[.slice (some ⟨b, 0, none⟩) bs.length bs.length, .nilIface]) h') : CallF Tryz.prog G 158 #[.slice (some ⟨b, o, none⟩) l c] K Kp h := by
 refine S158_ok ?_
 have hl : l = bs.length + 4 := by have := hr.len hO; simpa [sum4] using this
 have hr0 : Rdl L eU8 (some ⟨b, o, none⟩) bs.length bs := by
  have := hr.part eU8_ok 0 bs.length (by omega)
  simpa using this
 unfold S158
 refine If.dec (λ _ => by omega) (λ _ => Rng.go (by omega) (Rq.go (by omega) ?_))
 rw [show ((l : Int) - 4).toNat = bs.length by omega]
 refine octSum hG hO hr0 (by omega) ⟨_, rfl, ?_⟩
 refine LoopS.go (λ vs h' => h' = h /\ ∃ n : Nat, n <= 4 /\ vs = [.int .i64 n]) (λ vs _ => match vs with | [.int _ n] => (4 - n).toNat | _ => 0) ⟨rfl, 0, by omega, by simp⟩ ?_
 rintro jv vs h' ⟨rfl, n, hn, rfl⟩
 unfold S158_l6
 refine ⟨_, rfl, ?_⟩
 refine If.dec (λ hlt => ?_) (λ hlt => ?_)
 ·refine Rng.go (by omega) (Rq.go (by omega) ?_)
  obtain ⟨x, hx, hn'⟩ := hr.at eU8_ok hO (i := (l : Int) - 4 + n) (by omega) (by omega)
  refine hn' _ λ a _ hc => ?_
  refine LdI.i (hc 0 _ rfl) (Rng.go (by omega) (Rq.go (by omega) ?_))
  have hx2 : (sum4 (crc bs))[n]? = some x := by
   rw [show ((l : Int) - 4 + n).toNat = bs.length + n by omega, List.getElem?_append_right (by omega)] at hx
   rw [<- hx]; congr 1; omega
  refine If.f ?_ (Rng.go (by omega) ⟨⟨rfl, n + 1, by omega, rfl⟩, ?_⟩)
  ·have : n = 0 ∨ n = 1 ∨ n = 2 ∨ n = 3 := by omega
   rcases this with h | h | h | h <;> subst h <;> simp only [sum4, List.getElem?_cons_zero, List.getElem?_cons_succ, Option.some.injEq] at hx2 <;> subst hx2 <;> rw [byt_nat] <;> simp
  ·simp only; omega
 ·unfold S158_k1
  refine Rq.go (by omega) ?_
  rw [show ((l : Int) - 4).toNat = bs.length by omega]
  refine octWith hO hr0 (Rdl.nil _ _) (by omega) λ h' b pc hs hO => ?_
  exact ⟨_, _, _, rfl, hK _ _ _ (by simpa using hs) hO⟩
end Go.Sl
set_option maxRecDepth 100000
namespace Go.Sl
open Go Go.Proofs
variable {G h : Heap} {L R : List Heap} {K : Value -> Heap -> Prop} {Kp : PK}
theorem or8 {v : Int} {b : UInt8} (h0 : 0 <= v) (h1 : v < 16777216) : bitsI .or .u32 (IntKind.wrap .u32 (v * 2 ^ 8)) (IntKind.wrap .u32 b.toNat) = v * 256 + b.toNat := by
 have hb : b.toNat < 256 := b.toNat_lt
 have w : ∀ x : Int, 0 <= x -> x < 4294967296 -> IntKind.u32.wrap x = x := λ x h0 h1 => by
  have : IntKind.u32.wrap x = x % 4294967296 := by simp [IntKind.wrap, IntKind.signed, IntKind.bits]
  rw [this]; omega
 obtain ⟨n, rfl⟩ : ∃ n : Nat, v = n := ⟨v.toNat, by omega⟩
 rw [w _ (by omega) (by omega), w _ (by omega) (by omega)]
 have e : bitsI .or .u32 ((n : Int) * 2 ^ 8) (b.toNat : Int) = IntKind.u32.wrap ((BitVec.ofInt 32 ((n : Int) * 2 ^ 8) ||| BitVec.ofInt 32 (b.toNat : Int)).toNat) := rfl
 rw [e, BitVec.toNat_or]
 have t1 : (BitVec.ofInt 32 ((n : Int) * 2 ^ 8)).toNat = 2 ^ 8 * n := by
  rw [BitVec.toNat_ofInt]; omega
 have t2 : (BitVec.ofInt 32 (b.toNat : Int)).toNat = b.toNat := by
  rw [BitVec.toNat_ofInt]; omega
 rw [t1, t2, <- Nat.two_pow_add_eq_or_of_lt (by omega), w _ (by omega) (by omega)]
 omega
def rdr (b : Nat) (q : Option Addr) (l k at_ : Nat) (z : Nat × Nat) : Heap := single b (.cells #[.slice q l k, .int .i64 at_, .nilIface] 318 z)
theorem octNewReader {p : Option Addr} {l c : Nat} {bs : List UInt8} (hO : Own G h L) (hr : Rdl L eU8 p l bs) (hsm : l <= 4294967296)
  (hK : ∀ h' b q pc, Sli eU8 (some ⟨q, 0, none⟩) l l bs pc -> Own G h' (rdr b (some ⟨q, 0, none⟩) l l 0 (0, 0) :: pc :: L) -> K (.pointer (some ⟨b, 0, none⟩)) h') : CallF Tryz.prog G 154 #[.slice p l c] K Kp h := by
 refine S154_ok ?_
 unfold S154
 refine octWith hO hr (Rdl.nil _ _) (by omega) λ h b pc hs hO => ?_
 refine ⟨_, _, _, rfl, newK.go hO ?_⟩
 intro r h hO
 exact hK _ _ _ _ (by simpa using hs) hO
theorem octNext {b q l k at_ n : Nat} {z : Nat × Nat} {bs : List UInt8} (hz : z = (0, 0)) (hO : Own G h (rdr b (some ⟨q, 0, none⟩) l k at_ z :: L)) (hr : Rdl L eU8 (some ⟨q, 0, none⟩) l bs) (hk : l <= k) (hsm : k <= 4294967296) (hn : 1 <= n) (hl : at_ + n <= l)
  (hK : ∀ h' c', Own G h' (rdr b (some ⟨q, 0, none⟩) l k (at_ + n) z :: L) -> Rdl L eU8 (some ⟨q, at_, none⟩) n ((bs.drop at_).take n) -> K (.slice (some ⟨q, at_, none⟩) n c') h') : CallF Tryz.prog G 186 #[.pointer (some ⟨b, 0, none⟩), .int .i64 n] K Kp h := by
 subst hz
 refine S186_ok ?_
 have hp : Rdl L eU8 (some ⟨q, at_, none⟩) n ((bs.drop at_).take n) := by
  have := hr.part eU8_ok at_ n hl
  simpa [eU8] using this
 unfold rdr at hO
 unfold S186
 refine NN.go (LdV.go hO (by with_unfolding_all rfl) (Rq.go (.inl rfl) (If.t rfl (If.dec (λ _ => by omega) λ _ => ?_))))
 refine NN.go (LdSl.go hO (by with_unfolding_all rfl) (NN.go (LdI.go hO (by with_unfolding_all rfl) (Rng.go (by omega) ?_))))
 unfold S186_k1
 refine If.f (by simp; omega) ?_
 unfold S186_k2
 refine NN.go (LdV.go hO (by with_unfolding_all rfl) (Rq.go (.inl rfl) (If.f rfl ?_)))
 refine NN.go (LdSl.go hO (by with_unfolding_all rfl) (NN.go (LdI.go hO (by with_unfolding_all rfl) (NN.go (LdI.go hO (by with_unfolding_all rfl) (Rng.go (by omega) (Rq.go (by omega) (Rq.go (by omega) ?_))))))))
 refine NN.go (LdI.go hO (by with_unfolding_all rfl) (Rng.go (by omega) (NN.go ?_)))
 refine st1.g hO ?_
 intro h hO
 have e : subA (some ⟨q, 0, none⟩) (at_ : Int).toNat k 1 = some ⟨q, at_, none⟩ := by
  unfold subA
  rw [if_neg (by omega)]
  simp [add_mk]
 rw [e]
 have e2 : ((at_ : Int) + (n : Int)).toNat - (at_ : Int).toNat = n := by omega
 rw [e2]
 exact hK _ _ hO hp
def numS (v : Int) (b : UInt8) : Int := bitsI .or .u32 (IntKind.wrap .u32 (v * 2 ^ 8)) (IntKind.wrap .u32 b.toNat)
theorem octNumber {b q l k at_ n : Nat} {bs : List UInt8} (hO : Own G h (rdr b (some ⟨q, 0, none⟩) l k at_ (0, 0) :: L)) (hr : Rdl L eU8 (some ⟨q, 0, none⟩) l bs) (hk : l <= k) (hsm : k <= 4294967296) (hn : 1 <= n) (hl : at_ + n <= l)
  (hK : ∀ h', Own G h' (rdr b (some ⟨q, 0, none⟩) l k (at_ + n) (0, 0) :: L) -> K (.int .u32 (((bs.drop at_).take n).foldl numS 0)) h') : CallF Tryz.prog G 180 #[.pointer (some ⟨b, 0, none⟩), .int .i64 n] K Kp h := by
 refine S180_ok ?_
 unfold S180
 refine octNext rfl hO hr hk hsm hn hl λ h c' hO hr => ?_
 refine ⟨_, _, _, rfl, ?_⟩
 have hlen := (hr.cons (rdr b (some ⟨q, 0, none⟩) l k (at_ + n) (0, 0))).len hO
 generalize (bs.drop at_).take n = ys at *
 refine LoopS.go (λ vs h' => h' = h /\ ∃ m : Nat, m <= n /\ vs = [.int .u32 ((ys.take m).foldl numS 0), .int .i64 m]) (λ vs _ => match vs with | [_, .int _ m] => (n - m).toNat | _ => 0) ⟨rfl, 0, by omega, by simp⟩ ?_
 rintro jv vs h' ⟨rfl, m, hm, rfl⟩
 unfold S180_l3
 refine ⟨_, _, rfl, If.dec (λ hlt => ?_) (λ hlt => ?_)⟩
 ·refine Rq.go ⟨by omega, hlt⟩ ?_
  obtain ⟨x, hx, hn'⟩ := (hr.cons _).at eU8_ok hO (i := (m : Int)) (by omega) hlt
  refine hn' _ λ a _ hc => ?_
  refine LdI.i (hc 0 _ rfl) (Rq.go (by omega) (Rng.go (by omega) ⟨⟨rfl, m + 1, by omega, ?_⟩, ?_⟩))
  ·have hx' : ys[m]? = some x := by simpa using hx
   have : ys.take (m + 1) = ys.take m ++ [x] := by
    rw [List.take_add_one, hx']; rfl
   rw [this, List.foldl_append]
   rfl
  ·simp only; omega
 ·unfold S180_k1
  have : m = n := by omega
  subst this
  rw [hlen, List.take_length]
  exact hK _ hO
theorem wrap64n (n : Nat) (h : n < 65536) : IntKind.i64.wrap (n : Int) = n := wrap_i64 (by omega) (by omega)
theorem octU8 {b q l k at_ : Nat} {bs : List UInt8} {x : UInt8} (hO : Own G h (rdr b (some ⟨q, 0, none⟩) l k at_ (0, 0) :: L)) (hr : Rdl L eU8 (some ⟨q, 0, none⟩) l bs) (hk : l <= k) (hsm : k <= 4294967296) (hx : bs[at_]? = some x)
  (hK : ∀ h', Own G h' (rdr b (some ⟨q, 0, none⟩) l k (at_ + 1) (0, 0) :: L) -> K (.int .i64 x.toNat) h') : CallF Tryz.prog G 182 #[.pointer (some ⟨b, 0, none⟩)] K Kp h := by
 refine S182_ok ?_
 unfold S182
 have hl := (hr.cons (rdr b (some ⟨q, 0, none⟩) l k at_ (0, 0))).len hO
 have hat := (List.getElem?_eq_some_iff.1 hx).1
 refine octNumber (n := 1) hO hr hk hsm (by omega) (by omega) λ h hO => ?_
 have e : (bs.drop at_).take 1 = [x] := by
  rw [List.take_one]; simp [hx]
 rw [e]
 refine ⟨_, rfl, ?_⟩
 have := or8 (v := 0) (b := x) (by omega) (by omega)
 have hb : x.toNat < 256 := x.toNat_lt
 rw [show [x].foldl numS 0 = (x.toNat : Int) by simp only [List.foldl_cons, List.foldl_nil, numS]; rw [this]; omega, wrap64n _ (by omega)]
 exact hK _ hO
theorem octU16 {b q l k at_ : Nat} {bs : List UInt8} {x y : UInt8} (hO : Own G h (rdr b (some ⟨q, 0, none⟩) l k at_ (0, 0) :: L)) (hr : Rdl L eU8 (some ⟨q, 0, none⟩) l bs) (hk : l <= k) (hsm : k <= 4294967296) (hx : bs[at_]? = some x) (hy : bs[at_ + 1]? = some y)
  (hK : ∀ h', Own G h' (rdr b (some ⟨q, 0, none⟩) l k (at_ + 2) (0, 0) :: L) -> K (.int .i64 ((x.toNat * 256 + y.toNat : Nat))) h') : CallF Tryz.prog G 155 #[.pointer (some ⟨b, 0, none⟩)] K Kp h := by
 refine S155_ok ?_
 unfold S155
 have hl := (hr.cons (rdr b (some ⟨q, 0, none⟩) l k at_ (0, 0))).len hO
 have hat := (List.getElem?_eq_some_iff.1 hy).1
 refine octNumber (n := 2) hO hr hk hsm (by omega) (by omega) λ h hO => ?_
 have e : (bs.drop at_).take 2 = [x, y] := by
  rw [List.take_add_one, List.take_one]; simp [hx, hy]
 rw [e]
 refine ⟨_, rfl, ?_⟩
 have h1 := or8 (v := 0) (b := x) (by omega) (by omega)
 have hb : x.toNat < 256 := x.toNat_lt
 have hb2 : y.toNat < 256 := y.toNat_lt
 have h2 := or8 (v := (x.toNat : Int)) (b := y) (by omega) (by omega)
 rw [show [x, y].foldl numS 0 = ((x.toNat * 256 + y.toNat : Nat) : Int) by
  simp only [List.foldl_cons, List.foldl_nil, numS]; rw [h1, show (0 : Int) * 256 + (x.toNat : Int) = (x.toNat : Int) by omega, h2]; omega, wrap64n _ (by omega)]
 exact hK _ hO
theorem octAt {b q l k at_ : Nat} {z : Nat × Nat} (hO : Own G h (rdr b (some ⟨q, 0, none⟩) l k at_ z :: L)) (hK : K (.int .i64 at_) h) : CallF Tryz.prog G 183 #[.pointer (some ⟨b, 0, none⟩)] K Kp h := by
 refine S183_ok ?_
 unfold S183 rdr at *
 exact NN.go (LdI.go hO (by with_unfolding_all rfl) hK)
theorem octErr {b q l k at_ : Nat} {z : Nat × Nat} (hO : Own G h (rdr b (some ⟨q, 0, none⟩) l k at_ z :: L)) (hK : K .nilIface h) : CallF Tryz.prog G 157 #[.pointer (some ⟨b, 0, none⟩)] K Kp h := by
 refine S157_ok ?_
 unfold S157 rdr at *
 exact NN.go (LdV.go hO (by with_unfolding_all rfl) hK)
end Go.Sl
set_option maxRecDepth 100000
namespace Go.Sl
open Go Go.Proofs
variable {G h : Heap} {L R : List Heap} {K : Value -> Heap -> Prop} {Kp : PK}
def DiskP (p : Option Addr) (bs : List UInt8) (n : Nat) (c : Heap) : Prop :=
 ∃ b q l k pc, p = some ⟨b, 0, none⟩ /\ Sli eU8 q l k bs pc /\ JoinOf c [single b (.cells #[.slice q l k, .int .i64 n] 98 (0, 0)), pc]
theorem diskNew (hO : Own G h L)
  (hK : ∀ h' p c, DiskP p [] 0 c -> Own G h' (c :: L) -> K (.pointer p) h') : CallF Tryz.prog G 48 #[] K Kp h := by
 refine S48_ok ?_
 unfold S48
 refine newK.go hO ?_
 intro r h hO
 have hO := hO.addEmp
 obtain ⟨hj, hO⟩ := Own.closeJ (cs := [_, emp]) hO
 exact hK _ _ _ ⟨_, _, _, _, _, rfl, .no, hj⟩ hO
theorem diskSize {p : Option Addr} {bs : List UInt8} {n : Nat} {c : Heap} (hO : Own G h L) [t : Take L c R] (hd : DiskP p bs n c)
  (hK : K (.int .i64 bs.length) h) : CallF Tryz.prog G 51 #[.pointer p] K Kp h := by
 refine S51_ok ?_
 obtain ⟨b, q, l, k, pc, rfl, hs, hj⟩ := hd
 have hO : Own G h (_ :: _ :: _) := (hO.perm t.perm).openJ hj
 unfold S51
 refine NN.go (LdSl.g hO ?_)
 rw [hs.len]; exact hK
theorem diskSynced {p : Option Addr} {bs : List UInt8} {n : Nat} {c : Heap} (hO : Own G h L) [t : Take L c R] (hd : DiskP p bs n c)
  (hK : K (.int .i64 n) h) : CallF Tryz.prog G 144 #[.pointer p] K Kp h := by
 refine S144_ok ?_
 obtain ⟨b, q, l, k, pc, rfl, hs, hj⟩ := hd
 have hO : Own G h (_ :: _ :: _) := (hO.perm t.perm).openJ hj
 unfold S144
 exact NN.go (LdI.go hO (by with_unfolding_all rfl) hK)
theorem diskBytes {p : Option Addr} {bs : List UInt8} {n : Nat} {c : Heap} (hO : Own G h L) [t : Take L c R] (hd : DiskP p bs n c) (hsm : bs.length <= 4294967296)
  (hK : ∀ h' b pc, Sli eU8 (some ⟨b, 0, none⟩) bs.length bs.length bs pc -> Own G h' (pc :: L) -> K (.slice (some ⟨b, 0, none⟩) bs.length bs.length) h') : CallF Tryz.prog G 15 #[.pointer p] K Kp h := by
 refine S15_ok ?_
 obtain ⟨b, q, l, k, pc, rfl, hs, hj⟩ := hd
 have hOo : Own G h (_ :: _ :: _) := (hO.perm t.perm).openJ hj
 have hl := hs.len
 unfold S15
 refine NN.go (LdSl.g hOo ?_)
 refine make_go tU8 hO (by omega) (by omega) (by omega) λ h bb pb hsb hO => ?_
 refine ⟨_, _, _, rfl, ?_⟩
 rw [Int.toNat_natCast] at hsb ⊢
 have hOo : Own G h (pb :: _ :: _ :: _) := (hO.perm (t.perm.cons pb)).open2 hj
 refine NN.go (LdSl.g hOo ?_)
 refine copy_go tU8 hO (.refl _) hsb ((hs.rdl (L := _ :: _ :: R) (by simp)) G h hOo.tail) 0 (by omega) (λ h pc' hs' hO => ?_) (by simp [Addr.add]) (by omega)
 refine ⟨_, rfl, ?_⟩
 have e : List.take 0 (List.replicate l eU8.z) ++ bs ++ List.drop (0 + l) (List.replicate l eU8.z) = bs := by simp
 rw [e, hl] at hs'
 rw [hl]
 exact hK _ _ _ hs' hO
theorem diskAppend {p p2 : Option Addr} {l2 c2 : Nat} {bs ys : List UInt8} {n : Nat} {c : Heap} (hO : Own G h L) [t : Take L c R] (hd : DiskP p bs n c) (hr : Rdl R eU8 p2 l2 ys) (hsm : bs.length + ys.length <= 262144)
  (hK : ∀ h' c', DiskP p (bs ++ ys) n c' -> Own G h' (c' :: R) -> K (.int .i64 0) h') : CallF Tryz.prog G 102 #[.pointer p, .slice p2 l2 c2] K Kp h := by
 refine S102_ok ?_
 obtain ⟨b, q, l, k, pc, rfl, hs, hj⟩ := hd
 have hO : Own G h (_ :: _ :: _) := (hO.perm t.perm).openJ hj
 have hl := hs.len
 have hl2 := ((hr.cons _).cons _).len hO
 unfold S102
 refine NN.go (LdSl.go hO (by with_unfolding_all rfl) (Rng.go (by omega) (If.dec (λ _ => by omega) λ _ => ?_)))
 refine NN.go (LdSl.g hO ?_)
 refine append_go tU8 tU8.ud hO (List.Perm.swap _ _ _) hs ((hr.cons _).cons _ G h hO) (by omega) λ h p' c' pc' hs hO => ?_
 refine ⟨_, _, _, rfl, NN.go (st1.g hO ?_)⟩
 intro h hO
 have hO := hO.perm (List.Perm.swap _ _ _)
 obtain ⟨hj, hO⟩ := Own.closeJ (cs := [_, _]) hO
 exact hK _ _ ⟨_, _, _, _, _, rfl, hs, hj⟩ hO
theorem diskSync {p : Option Addr} {bs : List UInt8} {n : Nat} {c : Heap} (hO : Own G h L) [t : Take L c R] (hd : DiskP p bs n c) (hsm : bs.length <= 262144) (hn : n <= bs.length)
  (hK : ∀ h' c', DiskP p bs bs.length c' -> Own G h' (c' :: R) -> K (.int .i64 ((bs.length : Int) - n)) h') : CallF Tryz.prog G 105 #[.pointer p] K Kp h := by
 refine S105_ok ?_
 obtain ⟨b, q, l, k, pc, rfl, hs, hj⟩ := hd
 have hO : Own G h (_ :: _ :: _) := (hO.perm t.perm).openJ hj
 have hl := hs.len
 unfold S105
 refine NN.go (LdSl.go hO (by with_unfolding_all rfl) (NN.go (LdI.go hO (by with_unfolding_all rfl) (Rng.go (by omega) ?_))))
 refine NN.go (LdSl.go hO (by with_unfolding_all rfl) (NN.go (st1.g hO ?_)))
 intro h hO
 obtain ⟨hj, hO⟩ := Own.closeJ (cs := [_, _]) hO
 subst hl
 exact hK _ _ ⟨_, _, _, _, _, rfl, hs, hj⟩ hO
end Go.Sl
set_option maxRecDepth 100000
namespace Go.Sl
open Go Go.Proofs
variable {G h : Heap} {L R : List Heap} {K : Value -> Heap -> Prop} {Kp : PK}
def Rs {α : Type} (e : En α) (p : Option Addr) (l : Nat) (xs : List α) (pc : Heap) : Prop := ∀ L, pc ∈ L -> Rdl L e p l xs
theorem Sli.rs {α : Type} {e : En α} {p : Option Addr} {l c : Nat} {xs : List α} {pc : Heap} (h : Sli e p l c xs pc) : Rs e p l xs pc := λ _ hc => h.rdl hc
theorem Rs.part {α : Type} {e : En α} (ok : e.Ok) {b o l : Nat} {xs : List α} {pc : Heap} (h : Rs e (some ⟨b, o, none⟩) l xs pc) (i n : Nat) (hl : i + n <= l) : Rs e (some ⟨b, o + i * e.m, none⟩) n ((xs.drop i).take n) pc :=
 λ L hc => (h L hc).part ok i n hl
theorem subA_lt {b o lo cap : Nat} (h : lo < cap) : subA (some ⟨b, o, none⟩) lo cap 1 = some ⟨b, o + lo, none⟩ := by
 unfold subA; rw [if_neg (by omega)]; simp [add_mk]
theorem eq_nil_in {P : Program} {te : TypeId} {ms : Array (String × TypeId)} (hu : P.underlying te = some (.interface ms)) {t : TypeId} {v : Value} (d : Nat) : pr P (Op.equalIn (d + 1) te .nilIface (.iface t v)) = some false := by
 simp only [Op.equalIn, pr_bind, pr_underlying hu, Option.bind_some, pr_pure]
theorem eq_nil {P : Program} {te : TypeId} {ms : Array (String × TypeId)} (hu : P.underlying te = some (.interface ms)) {t : TypeId} {v : Value} : pr P (Op.equal te .nilIface (.iface t v)) = some false := eq_nil_in hu 9999
theorem errIsNil {t : TypeId} {v : Value} (hK : K (.bool false) h) : CallF Tryz.prog G 156 #[.nilIface, .iface t v] K Kp h := by
 refine S156_ok ?_
 unfold S156
 refine Rq.go (.inl rfl) (If.t rfl ?_)
 unfold S156_k1
 refine If.t rfl ?_
 unfold slV slN
 rw [bind_assoc']
 refine sl_bindPr (v := ()) rfl ?_
 refine sl_bindPr (v := .bool false) ?_ ?_
 ·show pr Tryz.prog (do pure (Value.bool (<- Op.equal 78 .nilIface (.iface t v)))) = _
  rw [pr_bind]
  have : pr Tryz.prog (Op.equal 78 .nilIface (.iface t v)) = some false := by
   exact eq_nil R78_ok.ud
  rw [this]; rfl
 ·exact ⟨_, rfl, hK⟩
def put16 (n : Nat) : List UInt8 := [byt (Int.fdiv (n : Int) (2 ^ 8)), byt (n : Int)]
def head (n : Nat) : List UInt8 := put16 n ++ put16 (65535 - n)
def frame (pl : List UInt8) : List UInt8 := head pl.length ++ pl ++ sum4 (crc (head pl.length ++ pl))
theorem byt_mod (n : Nat) : (byt (n : Int)).toNat = n % 256 := by
 have h := byt_nat (n : Int)
 have h2 : IntKind.u8.wrap (n : Int) = (n : Int) % 256 := by simp [IntKind.wrap, IntKind.signed, IntKind.bits]
 rw [h2] at h; omega
theorem put16_val (n : Nat) (h : n < 65536) : (byt (Int.fdiv (n : Int) (2 ^ 8))).toNat * 256 + (byt (n : Int)).toNat = n := by
 have h1 : Int.fdiv (n : Int) (2 ^ 8) = ((n / 256 : Nat) : Int) := by
  rw [Int.fdiv_eq_ediv_of_nonneg _ (by decide)]; omega
 rw [h1, byt_mod, byt_mod]; omega
theorem wrapU64 (n : Nat) (h : n < 65536) : IntKind.u64.wrap (n : Int) = n := by
 have : IntKind.u64.wrap (n : Int) = (n : Int) % 18446744073709551616 := by simp [IntKind.wrap, IntKind.signed, IntKind.bits]
 rw [this]; omega
theorem frame_len (pl : List UInt8) : (frame pl).length = pl.length + 8 := by simp [frame, head, put16, sum4]
theorem walFrame {p : Option Addr} {l c : Nat} {pl : List UInt8} (hG : Gl G) (hO : Own G h L) (hr : Rdl L eU8 p l pl) (h1 : 1 <= pl.length) (h2 : pl.length <= 64)
  (hK : ∀ h' b pc, Sli eU8 (some ⟨b, 0, none⟩) (pl.length + 8) (pl.length + 8) (frame pl) pc -> Own G h' (pc :: L) -> K (.tuple #[.slice (some ⟨b, 0, none⟩) (pl.length + 8) (pl.length + 8), .nilIface]) h') : CallF Tryz.prog G 101 #[.slice p l c] K Kp h := by
 have hl := hr.len hO
 subst hl
 refine S101_ok ?_
 unfold S101
 refine If.dec (λ _ => by omega) λ _ => ?_
 unfold S101_k1
 refine If.f (by simp; omega) ?_
 rw [wrapU64 _ (by omega)]
 refine octPut16 hO (Rdl.nil _ _) (by omega) λ h b1 p1 hs1 hO => ?_
 refine ⟨_, _, _, rfl, Rng.go (by omega) ?_⟩
 rw [show (65535 : Int) - (pl.length : Int) = ((65535 - pl.length : Nat) : Int) by omega, wrapU64 _ (by omega)]
 refine octPut16 hO (hs1.rdl (by simp)) (by omega) λ h b2 p2 hs2 hO => ?_
 refine ⟨_, _, _, rfl, ?_⟩
 refine append_go tU8 tU8.ud hO (.refl _) hs2 (((hr.cons _).cons _) G h hO) (by omega) λ h p' c' pc' hs3 hO => ?_
 refine ⟨_, _, _, rfl, ?_⟩
 refine octSeal hG hO (hs3.rdl (by simp)) (by omega) λ h b4 p4 hs4 hO => ?_
 refine ⟨_, _, _, rfl, ?_⟩
 have e : ([] ++ [byt (Int.fdiv (pl.length : Int) (2 ^ 8)), byt (pl.length : Int)] ++ [byt (Int.fdiv ((65535 - pl.length : Nat) : Int) (2 ^ 8)), byt ((65535 - pl.length : Nat) : Int)] ++ pl) = head pl.length ++ pl := by simp [head, put16]
 rw [e] at hs4
 rw [show 0 + 2 + 2 + pl.length + 4 = pl.length + 8 by omega] at hs4 ⊢
 exact hK _ _ _ hs4 hO.drop2.drop2
theorem walRecord {q l c at_ : Nat} {bs pl pre post : List UInt8} (hG : Gl G) (hO : Own G h L) (hr : Rdl L eU8 (some ⟨q, 0, none⟩) l bs) (hc : l <= c) (hsm : c <= 4294967296)
  (hb : bs = pre ++ frame pl ++ post) (hat : at_ = pre.length) (h1 : 1 <= pl.length) (h2 : pl.length <= 64)
  (hK : ∀ h' b pc, Rs eU8 (some ⟨b, 4, none⟩) pl.length pl pc -> Own G h' (pc :: L) -> K (.tuple #[.slice (some ⟨b, 4, none⟩) pl.length pl.length, .nilIface]) h') : CallF Tryz.prog G 125 #[.slice (some ⟨q, 0, none⟩) l c, .int .i64 at_] K Kp h := by
 have hl := hr.len hO
 have hlen : l = at_ + (pl.length + 8) + post.length := by rw [hl, hb, hat]; simp [frame_len]; omega
 refine S125_ok ?_
 unfold S125
 have hmin : minI ((l : Nat) : Int) ((at_ : Int) + 4) = (at_ : Int) + 4 := by unfold minI; split <;> omega
 rw [hmin]
 refine Rng.go (by omega) (Rq.go (by omega) (Rq.go (by omega) ?_))
 rw [Int.toNat_natCast, subA_lt (by omega), show ((at_ : Int) + 4).toNat - at_ = 4 by omega]
 have hd : (bs.drop at_).take 4 = head pl.length := by
  rw [hb, hat, List.append_assoc, List.drop_left]
  simp [frame, head, put16]
 have hr4 := hr.part eU8_ok at_ 4 (by omega)
 rw [hd, show (0 : Nat) + at_ * eU8.m = 0 + at_ by simp [eU8]] at hr4
 refine octNewReader hO hr4 (by omega) λ h b qq pc hs hO => ?_
 refine ⟨_, rfl, ?_⟩
 have hrd : Rdl (pc :: L) eU8 (some ⟨qq, 0, none⟩) 4 (head pl.length) := hs.rdl (by simp)
 refine octU16 (x := byt (Int.fdiv (pl.length : Int) (2 ^ 8))) (y := byt (pl.length : Int)) hO hrd (by omega) (by omega) (by simp [head, put16]) (by simp [head, put16]) λ h hO => ?_
 refine ⟨_, rfl, ?_⟩
 refine octU16 (x := byt (Int.fdiv ((65535 - pl.length : Nat) : Int) (2 ^ 8))) (y := byt ((65535 - pl.length : Nat) : Int)) hO hrd (by omega) (by omega) (by simp [head, put16]) (by simp [head, put16]) λ h hO => ?_
 refine ⟨_, rfl, ?_⟩
 rw [put16_val _ (by omega), put16_val _ (by omega)]
 refine octErr hO ⟨_, rfl, errIsNil ⟨_, rfl, If.f rfl (Rng.go (by omega) ?_)⟩⟩
 refine If.f (by simp; omega) (If.dec (λ _ => by omega) λ _ => ?_)
 unfold S125_k1
 refine If.f (by simp; omega) (Rng.go (by omega) (Rng.go (by omega) (If.dec (λ _ => by omega) λ _ => Rng.go (by omega) (Rng.go (by omega) (Rq.go (by omega) (Rq.go (by omega) ?_))))))
 rw [Int.toNat_natCast, subA_lt (by omega), show ((at_ : Int) + (pl.length : Int) + 8).toNat - at_ = pl.length + 8 by omega]
 have hd2 : (bs.drop at_).take (pl.length + 8) = frame pl := by
  rw [hb, hat, List.append_assoc, List.drop_left, <- frame_len pl, List.take_left]
 have hrf := hr.part eU8_ok at_ (pl.length + 8) (by omega)
 rw [hd2, show (0 : Nat) + at_ * eU8.m = 0 + at_ by simp [eU8]] at hrf
 have hO := hO.drop1.drop1
 refine octOpen (bs := head pl.length ++ pl) hG hO hrf (by omega) (by omega) λ h b2 p2 hs2 hO => ?_
 refine ⟨_, _, _, _, rfl, errIsNil ⟨_, rfl, If.f rfl ?_⟩⟩
 have hhl : (head pl.length).length = 4 := by simp [head, put16]
 refine Rq.go (by simp only [List.length_append, hhl]; omega) ?_
 rw [subA_lt (by simp only [List.length_append, hhl]; omega)]
 simp only [List.length_append, hhl, Nat.zero_add, Nat.add_sub_cancel_left]
 refine hK _ _ _ ?_ hO
 have := hs2.rs.part eU8_ok 4 pl.length (by simp only [List.length_append, hhl]; omega)
 rw [show (head pl.length ++ pl).drop 4 = pl by rw [<- hhl, List.drop_left], List.take_length] at this
 simpa [eU8] using this
end Go.Sl
namespace Go.Sl
open Go Go.Proofs
set_option maxRecDepth 100000
variable {G h : Heap} {K : Value -> Heap -> Prop} {Kp : PK}
def S209 (G : Heap) (K : Value -> Heap -> Prop) (Kp : PK) (v1 : Option Addr) (h : Heap) : Prop :=
 ((If v1.isNone ((K .nilIface h)) ((NN v1 λ v2 => LdV G h (ad v2 1) λ v3 => (K v3 h)))))
noncomputable def E209 : TE := mkE [R78, R134, R136] false (.any)
theorem T209 : TOk Tryz.prog E209 := mkE_ok (AllOk.mem (⟨R78_ok, R134_ok, R136_ok, trivial⟩ : AllOk Tryz.prog [R78, R134, R136]))
def ann209 : Nat -> LAnn := λ _ => ⟨[], []⟩
theorem vc209 {v1 : Option Addr} :
  S209 G K Kp v1 h = vcC E209 Tryz.prog G 9 ann209 Kp (bodyOf Tryz.f209) (retQ E209 G Tryz.f209.results.toList K) (frmA (#[(.pointer v1)] : Array Value).toList 0) h := by kernel_rfl
theorem b209 : bOk Tryz.prog 209 Tryz.f209 9 ann209 = true := by kernel_rfl
theorem S209_ok {v1 : Option Addr} (hh : S209 G K Kp v1 h) :
  CallF Tryz.prog G 209 #[(.pointer v1)] K Kp h :=
 callF_b T209 hmix Tryz.func209 Tryz.ntmps209 b209 (by kernel_rfl) (Eq.mp vc209 hh)
end Go.Sl
set_option maxRecDepth 100000
namespace Go.Sl
open Go Go.Proofs Go.Extern
structure SlR (P : Program) (G : Heap) (s : Sem Value) (K : Value -> Heap -> Prop) (Kp : Value -> Heap -> Prop) (h : Heap) : Prop where
 run : sl P G s K Kp h
theorem SlR.pr {P : Program} {G : Heap} {s : Sem Value} {v : Value} {K : Value -> Heap -> Prop} {Kp : Value -> Heap -> Prop} {h : Heap} (hv : Sl.pr P s = some v) (hK : K v h) : SlR P G s K Kp h := ⟨pr_sl s hv hK⟩
theorem SlR.eq {P : Program} {G : Heap} {s : Sem Value} {X : Prop} {K : Value -> Heap -> Prop} {Kp : Value -> Heap -> Prop} {h : Heap} (e : sl P G s K Kp h = X) (hX : X) : SlR P G s K Kp h := ⟨e ▸ hX⟩
theorem callExt {P : Program} {G : Heap} {f : FuncId} {fn : Func} {e : Array Value -> Sem Value} {args : Array Value} {K : Value -> Heap -> Prop} {Kp : PK} {h : Heap} (hf : P.funcs[f]? = some fn) (hn : (fn.name == "runtime.NumGoroutine") = false) (hb : fn.body.isNone = true) (h1 : Extern.findNext fn = none) (h2 : Extern.find fn = some e)
  (hs : SlR P G (e args) K (λ v h => Kp [{ v, recovered := false }] h) h) : CallF P G f args K Kp h := by
 have hh := hs.run
 refine ⟨?_⟩
 unfold slN callFunc
 refine sl_bindPr (v := P) rfl ?_
 simp only [hf, hn, hb, h1, h2, Bool.false_eq_true, if_false, if_true]
 have := sl_map (P := P) Next.value (e args) (G := G) (K := λ n h => nextK P G K Kp n h) (Kp := λ v h => Kp [{ v, recovered := false }] h) (h := h) hh
 show sl P G (.mark (.extern f) _) _ _ h
 simp only [sl]
 exact this
theorem callM_of {P : Program} {G : Heap} {t : TypeId} {v r : Value} {name : String} {f : FuncId} {args args' : Array Value} {K : Value -> Heap -> Prop} {Kp : PK} {h : Heap} {n : Nat} (hn : P.types.size + Made.depth = n) (hm : pr P (method n t v name) = some (f, r)) (ha : #[r] ++ args = args') (hh : CallF P G f args' K Kp h) : CallM P G (.iface t v) name args K Kp h := by
 subst ha
 refine ⟨?_⟩
 unfold slN callMethod
 dsimp only
 refine sl_bindPr (v := P) rfl ?_
 rw [hn]
 exact sl_bindPr hm hh.run
noncomputable def nTy : Nat := Tryz.prog.types.size + Made.depth
theorem callM0 {G : Heap} {t : TypeId} {v r : Value} {name : String} {f : FuncId} {K : Value -> Heap -> Prop} {Kp : PK} {h : Heap} (hm : pr Tryz.prog (method nTy t v name) = some (f, r)) (hh : CallF Tryz.prog G f #[r] K Kp h) : CallM Tryz.prog G (.iface t v) name #[] K Kp h := callM_of (n := nTy) rfl hm (by simp) hh
theorem callM1 {G : Heap} {t : TypeId} {v r x : Value} {name : String} {f : FuncId} {K : Value -> Heap -> Prop} {Kp : PK} {h : Heap} (hm : pr Tryz.prog (method nTy t v name) = some (f, r)) (hh : CallF Tryz.prog G f #[r, x] K Kp h) : CallM Tryz.prog G (.iface t v) name #[x] K Kp h := callM_of (n := nTy) rfl hm (by simp) hh
theorem slV_pr {P : Program} {G : Heap} {s : Sem Value} {v : Value} {K : Value -> Heap -> Prop} {Kp : PK} {h : Heap} (hv : pr P s = some v) (hK : K v h) : slV P G s K Kp h := by
 unfold slV slN; exact sl_bindPr hv hK
def stp (P : Program) {α : Type} : Sem α -> Sem α
 | .program k => stp P (k P)
 | s => s
theorem stp_sl {P : Program} {α : Type} (s : Sem α) : ∀ {G : Heap} {K : α -> Heap -> Prop} {Kp : Value -> Heap -> Prop} {h : Heap}, sl P G (stp P s) K Kp h -> sl P G s K Kp h := by
 induction s with
 | program k ih => intro G K Kp h hs; exact ih _ hs
 | _ => intro G K Kp h hs; exact hs
def lda {α : Type} : Sem α -> Option Addr
 | .load _ a _ => some a
 | _ => none
def ldk {α : Type} : Sem α -> Value -> Sem α
 | .load _ _ k, v => k v
 | s, _ => s
def sta {α : Type} : Sem α -> Option (Addr × Value)
 | .store _ a v _ => some (a, v)
 | _ => none
def stk {α : Type} : Sem α -> Sem α
 | .store _ _ _ k => k
 | s => s
theorem ld_sl {P : Program} {s : Sem Value} {a : Addr} {v : Value} {G : Heap} {K : Value -> Heap -> Prop} {Kp : Value -> Heap -> Prop} {h : Heap} (h1 : lda (stp P s) = some a) (h2 : hcell (rd G h) a = some v) (hr : SlR P G (ldk (stp P s) v) K Kp h) : SlR P G s K Kp h := by
 have hh := hr.run
 refine ⟨stp_sl s ?_⟩
 cases hs : stp P s <;> rw [hs] at h1 hh <;> simp only [lda, reduceCtorEq] at h1
 simp only [Option.some.injEq] at h1
 subst h1
 exact ⟨v, h2, hh⟩
theorem st_sl {P : Program} {s : Sem Value} {a : Addr} {v : Value} {G : Heap} {K : Value -> Heap -> Prop} {Kp : Value -> Heap -> Prop} {h : Heap} (h1 : sta (stp P s) = some (a, v)) (hr : st1 a v (λ h => SlR P G (stk (stp P s)) K Kp h) h) : SlR P G s K Kp h := by
 obtain ⟨g1, o, g2, g3, g4, ⟨hh⟩⟩ := hr
 have hh : st1 a v (λ h => sl P G (stk (stp P s)) K Kp h) h := ⟨g1, o, g2, g3, g4, hh⟩
 refine ⟨stp_sl s ?_⟩
 cases hs : stp P s <;> rw [hs] at h1 hh <;> simp only [sta, reduceCtorEq] at h1
 simp only [Option.some.injEq, Prod.mk.injEq] at h1
 obtain ⟨rfl, rfl⟩ := h1
 exact hh
@[reducible] def hnd (t : Nat) : Value := .agg #[.pointer (some ⟨7, t, none⟩)]
@[reducible] def rty (t : Nat) : Value := .iface 291 (hnd t)
def FaultC (f : Nat) (a e : Int) : Heap := single f (.cells #[.int .i64 a, .iface 40 (.int .i64 e)] 136 (0, 0))
@[reducible] def fltV (f : Nat) : Value := .iface 134 (.pointer (some ⟨f, 0, none⟩))
@[reducible] def errV (e : Int) : Value := .iface 40 (.int .i64 e)
theorem apiWrap {G h : Heap} {L : List Heap} {a e : Int} {K : Value -> Heap -> Prop} {Kp : PK} (hO : Own G h L) (hK : ∀ h' f, Own G h' (FaultC f a e :: L) -> K (fltV f) h') : CallF Tryz.prog G 43 #[.int .i64 a, .int .i64 e] K Kp h := by
 refine S43_ok ?_
 unfold S43
 exact newK.go hO λ r h hO => hK _ _ hO
theorem errUnwrap {G h : Heap} {L R : List Heap} {f : Nat} {a e : Int} {K : Value -> Heap -> Prop} {Kp : PK} (hO : Own G h L) [t : Take L (FaultC f a e) R] (hK : K (errV e) h) : CallF Tryz.prog G 209 #[.pointer (some ⟨f, 0, none⟩)] K Kp h := by
 refine S209_ok ?_
 unfold S209
 have hO := hO.perm t.perm
 unfold FaultC at hO
 exact If.f rfl (NN.go (LdV.g hO hK))
theorem typeOf40 (e : Int) : pr Tryz.prog (ReflectliteType.typeOf #[errV e]) = some (rty 40) := by kernel_rfl
theorem typeOf134 (p : Option Addr) : pr Tryz.prog (ReflectliteType.typeOf #[.iface 134 (.pointer p)]) = some (rty 134) := by kernel_rfl
theorem mComparable (v : Value) : pr Tryz.prog (method nTy 291 (.agg #[v]) "Comparable") = some (220, .agg #[v]) := by kernel_rfl
theorem eComparable : Extern.find Tryz.f220 = some (ReflectliteType.method λ t => do Rtype.noPackHeld "Comparable" t; pure (.bool (<- typeInfo t).comparable)) := by kernel_rfl
theorem comparable40 : pr Tryz.prog ((ReflectliteType.method λ t => do Rtype.noPackHeld "Comparable" t; pure (.bool (<- typeInfo t).comparable)) #[hnd 40]) = some (.bool true) := by kernel_rfl
theorem pr_lacks {P : Program} {t xT asserted : TypeId} {v z : Value} {want : Array (String × TypeId)} {i j : TypeInfo} (hu : P.underlying asserted = some (.interface want)) (hi : P.info? t = some i) (hj : P.info? asserted = some j) (hz : j.zero = some z) (hb : (lacking want i.methods).isEmpty = false) :
  pr P (Instr.typeAssert (.iface t v) xT asserted true) = some (.tuple #[z, .bool false]) := by
 obtain ⟨m, hm⟩ := missingMethod_some (want := want) (got := i.methods) (λ e => by rw [e] at hb; exact absurd hb (by simp))
 unfold Instr.typeAssert
 simp only [pr_bind, pr_underlying hu, Option.bind_some, pr_typeInfo hi, hm, if_true, pr_zeroValue hj hz, pr_pure]
theorem pr_has {P : Program} {t xT asserted : TypeId} {v : Value} {want : Array (String × TypeId)} {i : TypeInfo} (hu : P.underlying asserted = some (.interface want)) (hi : P.info? t = some i) (hb : (lacking want i.methods).isEmpty = true) :
  pr P (Instr.typeAssert (.iface t v) xT asserted true) = some (.tuple #[.iface t v, .bool true]) := by
 unfold Instr.typeAssert
 simp only [pr_bind, pr_underlying hu, Option.bind_some, pr_typeInfo hi, missingMethod_none (List.isEmpty_iff.1 hb), if_true, pr_pure]
theorem asIs134 (p : Value) : pr Tryz.prog (Instr.typeAssert (.iface 134 p) 78 326 true) = some (.tuple #[.nilIface, .bool false]) :=
 pr_lacks Tryz.underlying326 (info_of Tryz.types_size (by kernel_rfl) Tryz.type134) (info_of Tryz.types_size (by kernel_rfl) Tryz.type326) (by kernel_rfl) (by kernel_rfl)
theorem asUn134 (p : Value) : pr Tryz.prog (Instr.typeAssert (.iface 134 p) 78 299 true) = some (.tuple #[.iface 134 p, .bool true]) :=
 pr_has Tryz.underlying299 (info_of Tryz.types_size (by kernel_rfl) Tryz.type134) (by kernel_rfl)
theorem asIs40 (p : Value) : pr Tryz.prog (Instr.typeAssert (.iface 40 p) 78 326 true) = some (.tuple #[.nilIface, .bool false]) :=
 pr_lacks Tryz.underlying326 (info_of Tryz.types_size (by kernel_rfl) Tryz.type40) (info_of Tryz.types_size (by kernel_rfl) Tryz.type326) (by kernel_rfl) (by kernel_rfl)
theorem asUn40 (p : Value) : pr Tryz.prog (Instr.typeAssert (.iface 40 p) 78 299 true) = some (.tuple #[.nilIface, .bool false]) :=
 pr_lacks Tryz.underlying299 (info_of Tryz.types_size (by kernel_rfl) Tryz.type40) (info_of Tryz.types_size (by kernel_rfl) Tryz.type299) (by kernel_rfl) (by kernel_rfl)
theorem asUl40 (p : Value) : pr Tryz.prog (Instr.typeAssert (.iface 40 p) 78 300 true) = some (.tuple #[.nilIface, .bool false]) :=
 pr_lacks Tryz.underlying300 (info_of Tryz.types_size (by kernel_rfl) Tryz.type40) (info_of Tryz.types_size (by kernel_rfl) Tryz.type300) (by kernel_rfl) (by kernel_rfl)
theorem mUnwrap (p : Option Addr) : pr Tryz.prog (method nTy 134 (.pointer p) "Unwrap") = some (209, .pointer p) := by kernel_rfl
theorem eq_types {te t1 t2 : TypeId} {v w : Value} {ms : Array (String × TypeId)} (hu : Tryz.prog.underlying te = some (.interface ms)) (h : t1 ≠ t2) : pr Tryz.prog (Op.equal te (.iface t1 v) (.iface t2 w)) = some false := by
 have key : ∀ n, pr Tryz.prog (Op.equalIn (n + 1) te (.iface t1 v) (.iface t2 w)) = some false := λ n => by
  simp [Op.equalIn, pr_bind, pr_underlying hu, h, pr_pure]
 exact key 9999
theorem eq40 (a b : Int) : pr Tryz.prog (Op.equal 78 (errV a) (errV b)) = some (a == b) := by
 have hi : Tryz.prog.info? 40 = some Tryz.t40 := info_of Tryz.types_size (by kernel_rfl) Tryz.type40
 have hc : Tryz.t40.comparable = true := rfl
 have key : ∀ n, pr Tryz.prog (Op.equalIn (n + 1 + 1) 78 (errV a) (errV b)) = some (a == b) := λ n => by
  simp [Op.equalIn, pr_bind, pr_underlying Tryz.underlying78, pr_underlying Tryz.underlying40, pr_typeInfo hi, hc, pr_pure]
 exact key 9998
theorem eqI {G h : Heap} {t1 t2 : TypeId} {v w : Value} {b : Bool} {X Y : Operand} {K : Value -> Heap -> Prop} {Kp : PK} (he : pr Tryz.prog (Op.equal 78 (.iface t1 v) (.iface t2 w)) = some b) (hK : K (.bool b) h) : slV Tryz.prog G (do eqGuard .eql 78 X Y (.iface t1 v) (.iface t2 w); binOp .eql 78 (.iface t1 v) (.iface t2 w)) K Kp h := by
 unfold slV slN
 rw [bind_assoc']
 refine sl_bindPr (v := ()) rfl ?_
 refine sl_bindPr (v := .bool b) ?_ ?_
 rotate_left
 ·exact hK
 show pr Tryz.prog (do pure (Value.bool (<- Op.equal 78 (.iface t1 v) (.iface t2 w)))) = _
 rw [pr_bind, he]; rfl
theorem errIs {G h : Heap} {L R : List Heap} {f : Nat} {a e n : Int} {K : Value -> Heap -> Prop} {Kp : PK} (hO : Own G h L) [t : Take L (FaultC f a e) R] (hK : K (.bool (e == n)) h) : CallF Tryz.prog G 156 #[fltV f, errV n] K Kp h := by
 refine S156_ok ?_
 unfold S156
 refine Rq.go (.inr ⟨_, _, rfl⟩) (If.f rfl (Rq.go (.inr ⟨_, _, rfl⟩) ?_))
 unfold S156_k1
 refine If.f rfl ?_
 refine callExt (e := ReflectliteType.typeOf) Tryz.func159 (by kernel_rfl) (by kernel_rfl) (by kernel_rfl) (by kernel_rfl) ?_
 refine SlR.pr (typeOf40 n) ⟨_, rfl, ?_⟩
 refine callM0 (mComparable _) ?_
 refine callExt Tryz.func220 (by kernel_rfl) (by kernel_rfl) (by kernel_rfl) eComparable ?_
 refine SlR.pr comparable40 ⟨_, rfl, ?_⟩
 refine S181_ok ?_
 unfold S181
 refine LoopS.go (λ vs h' => h' = h /\ (vs = [fltV f] ∨ vs = [errV e])) (λ vs _ => match vs with | [.iface 134 _] => 1 | _ => 0) ⟨rfl, .inl rfl⟩ ?_
 rintro jv vs h' ⟨rfl, rfl | rfl⟩
 ·unfold S181_l1
  refine ⟨_, rfl, If.t rfl (eqI (eq_types Tryz.underlying78 (by decide)) ⟨_, rfl, ?_⟩)⟩
  unfold S181_k1
  refine If.f rfl (slV_pr (asIs134 _) ⟨_, _, rfl, If.f rfl ?_⟩)
  unfold S181_k2
  refine If.f rfl (slV_pr (asUn134 _) ⟨_, _, rfl, If.t rfl ?_⟩)
  refine callM0 (mUnwrap _) ?_
  exact errUnwrap (a := a) hO ⟨_, rfl, Rq.go (.inr ⟨_, _, rfl⟩) (If.f rfl ⟨⟨rfl, .inr rfl⟩, Nat.zero_lt_one⟩)⟩
 ·unfold S181_l1
  refine ⟨_, rfl, If.t rfl (eqI (eq40 e n) ⟨_, rfl, ?_⟩)⟩
  unfold S181_k1
  refine If.mk (λ e1 => by rw [e1] at hK; exact ⟨_, rfl, hK⟩) (λ e1 => ?_)
  rw [e1] at hK
  refine slV_pr (asIs40 _) ⟨_, _, rfl, If.f rfl ?_⟩
  unfold S181_k2
  exact If.f rfl (slV_pr (asUn40 _) ⟨_, _, rfl, If.f rfl (slV_pr (asUl40 _) ⟨_, _, rfl, If.f rfl ⟨_, rfl, hK⟩⟩)⟩)
end Go.Sl
set_option maxRecDepth 100000
namespace Go.Sl
open Go Go.Proofs Go.Extern
def Ge (G : Heap) : Prop := ∃ t z, G 2 = some (.cells #[rty 78] t z)
@[reducible] def rfV (t r n : Nat) : Value := .agg #[.pointer (some ⟨7, t, none⟩), .pointer (some ⟨r, 0, none⟩), .int .u64 n]
theorem uPP {G h : Heap} {p : Option Addr} {K : Value -> Heap -> Prop} {Kp : Value -> Heap -> Prop} : sl Tryz.prog G (ReflectliteValue.unpack (.iface 174 (.pointer p))) K Kp h = newK G (.cells #[.pointer p] 174) (λ r h => K (rfV 174 r 150) h) h := by kernel_rfl
theorem uP {G h : Heap} {p : Option Addr} {K : Value -> Heap -> Prop} {Kp : Value -> Heap -> Prop} : sl Tryz.prog G (ReflectliteValue.unpack (.iface 134 (.pointer p))) K Kp h = newK G (.cells #[.pointer p] 134) (λ r h => K (rfV 134 r 150) h) h := by kernel_rfl
def fnType : Array Value -> Sem Value := ReflectliteValue.methodAny (ReflectliteValue.valueError "reflectlite.Value.Type" 0) λ t _ _ _ => ReflectliteType.toType t
def fnIsNil : Array Value -> Sem Value := ReflectliteValue.method (ReflectliteValue.valueError "reflectlite.Value.IsNil" 0) ReflectliteValue.isNil
def fnElem : Array Value -> Sem Value := ReflectliteValue.method (ReflectliteValue.valueError "reflectlite.Value.Elem" 0) ReflectliteValue.elem
def fnKind : Array Value -> Sem Value := ReflectliteType.abiMethod λ t => do pure (.int .u8 (<- Rtype.kind t))
def fnImp : Array Value -> Sem Value := ReflectliteType.relation "Implements" ReflectliteType.implements_
def fnAss : Array Value -> Sem Value := ReflectliteType.relation "AssignableTo" ReflectliteType.assignableTo
theorem tyPP (r : Nat) : pr Tryz.prog (fnType #[rfV 174 r 150]) = some (rty 174) := by kernel_rfl
theorem mKind (v : Value) : pr Tryz.prog (method nTy 291 (.agg #[v]) "Kind") = some (203, v) := by kernel_rfl
theorem mElem (v : Value) : pr Tryz.prog (method nTy 291 (.agg #[v]) "Elem") = some (221, .agg #[v]) := by kernel_rfl
theorem mImp (v : Value) : pr Tryz.prog (method nTy 291 (.agg #[v]) "Implements") = some (222, .agg #[v]) := by kernel_rfl
theorem mAss (v : Value) : pr Tryz.prog (method nTy 291 (.agg #[v]) "AssignableTo") = some (219, .agg #[v]) := by kernel_rfl
theorem kPP : pr Tryz.prog (fnKind #[.pointer (some ⟨7, 174, none⟩)]) = some (.int .u8 22) := by kernel_rfl
theorem kP : pr Tryz.prog (fnKind #[.pointer (some ⟨7, 134, none⟩)]) = some (.int .u8 22) := by kernel_rfl
theorem elPP : pr Tryz.prog (ReflectliteType.method ReflectliteType.elem #[hnd 174]) = some (rty 134) := by kernel_rfl
theorem impP : pr Tryz.prog (fnImp #[hnd 134, rty 78]) = some (.bool true) := by kernel_rfl
theorem assP : pr Tryz.prog (fnAss #[hnd 134, rty 134]) = some (.bool true) := by kernel_rfl
theorem nilPPa (r : Nat) : lda (stp Tryz.prog (fnIsNil #[rfV 174 r 150])) = some ⟨r, 0, none⟩ := by kernel_rfl
theorem nilPPk (r : Nat) (p : Addr) : pr Tryz.prog (ldk (stp Tryz.prog (fnIsNil #[rfV 174 r 150])) (.pointer (some p))) = some (.bool false) := by kernel_rfl
theorem elvPPa (r : Nat) : lda (stp Tryz.prog (fnElem #[rfV 174 r 150])) = some ⟨r, 0, none⟩ := by kernel_rfl
theorem elvPPk (r : Nat) (t : Nat) : pr Tryz.prog (ldk (stp Tryz.prog (fnElem #[rfV 174 r 150])) (.pointer (some ⟨t, 0, none⟩))) = some (rfV 134 t 406) := by kernel_rfl
theorem setPa (r t : Nat) : lda (stp Tryz.prog (ReflectliteValue.set #[rfV 134 t 406, rfV 134 r 150])) = some ⟨r, 0, none⟩ := by kernel_rfl
theorem setPs (r t : Nat) (p : Option Addr) : sta (stp Tryz.prog (ldk (stp Tryz.prog (ReflectliteValue.set #[rfV 134 t 406, rfV 134 r 150])) (.pointer p))) = some (⟨t, 0, none⟩, .pointer p) := by kernel_rfl
theorem setPk (r t : Nat) (p : Option Addr) : pr Tryz.prog (stk (stp Tryz.prog (ldk (stp Tryz.prog (ReflectliteValue.set #[rfV 134 t 406, rfV 134 r 150])) (.pointer p)))) = some (.tuple #[]) := by kernel_rfl
theorem errAs {G h : Heap} {L : List Heap} {f t : Nat} {K : Value -> Heap -> Prop} {Kp : PK} (hE : Ge G) (hO : Own G h (single t (.cells #[.pointer none] 134 (0, 0)) :: L))
  (hK : ∀ h', Own G h' (single t (.cells #[.pointer (some ⟨f, 0, none⟩)] 134 (0, 0)) :: L) -> K (.bool true) h') : CallF Tryz.prog G 86 #[fltV f, .iface 174 (.pointer (some ⟨t, 0, none⟩))] K Kp h := by
 refine S86_ok ?_
 unfold S86
 refine Rq.go (.inr ⟨_, _, rfl⟩) (If.f rfl (Rq.go (.inr ⟨_, _, rfl⟩) (If.f rfl ?_)))
 unfold S86_k1
 refine callExt (e := λ args => ReflectliteValue.unpack (args.getD 0 (.tuple #[]))) Tryz.func126 (by kernel_rfl) (by kernel_rfl) (by kernel_rfl) (by kernel_rfl) ?_
 refine SlR.eq uPP (newK.go hO ?_)
 clear hO; intro r1 h hO
 refine ⟨_, _, _, rfl, newK.go hO ?_⟩
 clear hO; intro r7 h hO
 (repeat (with_reducible first | refine NN.go ?_ | refine LdI.g hO ?_ | refine LdSl.g hO ?_ | refine LdP.g hO ?_ | refine LdM.g hO ?_ | refine LdB.g hO ?_ | refine cell_g hO ?_ | refine Rq.go (by omega) ?_ | refine Rng.go (by omega) ?_ | (refine st1.g hO ?_; clear hO; intro h hO; dsimp only [ad, List.set] at hO)))
 refine LdV.g hO ?_
 (repeat (with_reducible first | refine NN.go ?_ | refine LdI.g hO ?_ | refine LdSl.g hO ?_ | refine LdP.g hO ?_ | refine LdM.g hO ?_ | refine LdB.g hO ?_ | refine cell_g hO ?_ | refine Rq.go (by omega) ?_ | refine Rng.go (by omega) ?_ | (refine st1.g hO ?_; clear hO; intro h hO; dsimp only [ad, List.set] at hO)))
 refine callExt (e := fnType) Tryz.func127 (by kernel_rfl) (by kernel_rfl) (by kernel_rfl) (by kernel_rfl) ?_
 refine SlR.pr (tyPP r1) ⟨_, rfl, ?_⟩
 refine callM0 (mKind _) ?_
 refine callExt (e := fnKind) Tryz.func203 (by kernel_rfl) (by kernel_rfl) (by kernel_rfl) (by kernel_rfl) ?_
 refine SlR.pr kPP ⟨_, rfl, If.f rfl ?_⟩
 (repeat (with_reducible first | refine NN.go ?_ | refine LdI.g hO ?_ | refine LdSl.g hO ?_ | refine LdP.g hO ?_ | refine LdM.g hO ?_ | refine LdB.g hO ?_ | refine cell_g hO ?_ | refine Rq.go (by omega) ?_ | refine Rng.go (by omega) ?_ | (refine st1.g hO ?_; clear hO; intro h hO; dsimp only [ad, List.set] at hO)))
 refine LdV.g hO ?_
 (repeat (with_reducible first | refine NN.go ?_ | refine LdI.g hO ?_ | refine LdSl.g hO ?_ | refine LdP.g hO ?_ | refine LdM.g hO ?_ | refine LdB.g hO ?_ | refine cell_g hO ?_ | refine Rq.go (by omega) ?_ | refine Rng.go (by omega) ?_ | (refine st1.g hO ?_; clear hO; intro h hO; dsimp only [ad, List.set] at hO)))
 refine callExt (e := fnIsNil) Tryz.func128 (by kernel_rfl) (by kernel_rfl) (by kernel_rfl) (by kernel_rfl) ?_
 refine ld_sl (nilPPa r1) (hcell_own (a := ⟨r1, 0, none⟩) hO (Find.there _ _ _ _ _) (by with_unfolding_all rfl)) ?_
 refine SlR.pr (nilPPk r1 _) ⟨_, rfl, ?_⟩
 unfold S86_k2
 refine If.f rfl ?_
 unfold S86_k3
 refine callM0 (mElem _) ?_
 refine callExt (e := ReflectliteType.method ReflectliteType.elem) Tryz.func221 (by kernel_rfl) (by kernel_rfl) (by kernel_rfl) (by kernel_rfl) ?_
 refine SlR.pr elPP ⟨_, rfl, ?_⟩
 refine callM0 (mKind _) ?_
 refine callExt (e := fnKind) Tryz.func203 (by kernel_rfl) (by kernel_rfl) (by kernel_rfl) (by kernel_rfl) ?_
 refine SlR.pr kP ⟨_, rfl, If.t rfl ?_⟩
 obtain ⟨ty, z, hg⟩ := hE
 refine LdV.i (glob_cell hO (a := ⟨2, 0, none⟩) hg rfl) ?_
 refine callM1 (mImp _) ?_
 refine callExt (e := fnImp) Tryz.func222 (by kernel_rfl) (by kernel_rfl) (by kernel_rfl) (by kernel_rfl) ?_
 refine SlR.pr impP ⟨_, rfl, ?_⟩
 unfold S86_k4
 refine If.f rfl ?_
 unfold S86_k5
 (repeat (with_reducible first | refine NN.go ?_ | refine LdI.g hO ?_ | refine LdSl.g hO ?_ | refine LdP.g hO ?_ | refine LdM.g hO ?_ | refine LdB.g hO ?_ | refine cell_g hO ?_ | refine Rq.go (by omega) ?_ | refine Rng.go (by omega) ?_ | (refine st1.g hO ?_; clear hO; intro h hO; dsimp only [ad, List.set] at hO)))
 refine LdV.g hO ?_
 (repeat (with_reducible first | refine NN.go ?_ | refine LdI.g hO ?_ | refine LdSl.g hO ?_ | refine LdP.g hO ?_ | refine LdM.g hO ?_ | refine LdB.g hO ?_ | refine cell_g hO ?_ | refine Rq.go (by omega) ?_ | refine Rng.go (by omega) ?_ | (refine st1.g hO ?_; clear hO; intro h hO; dsimp only [ad, List.set] at hO)))
 refine S129_ok ?_
 unfold S129
 refine newK.go hO ?_
 clear hO; intro r8 h hO
 refine LoopS.go (λ vs h' => h' = h /\ vs = [fltV f]) (λ _ _ => 0) ⟨rfl, rfl⟩ ?_
 rintro jv vs h' ⟨rfl, rfl⟩
 unfold S129_l1
 refine ⟨_, rfl, ?_⟩
 refine callExt (e := ReflectliteType.typeOf) Tryz.func159 (by kernel_rfl) (by kernel_rfl) (by kernel_rfl) (by kernel_rfl) ?_
 refine SlR.pr (typeOf134 _) ⟨_, rfl, ?_⟩
 refine callM1 (mAss _) ?_
 refine callExt (e := fnAss) Tryz.func219 (by kernel_rfl) (by kernel_rfl) (by kernel_rfl) (by kernel_rfl) ?_
 refine SlR.pr assP ⟨_, rfl, If.t rfl ?_⟩
 (repeat (with_reducible first | refine NN.go ?_ | refine LdI.g hO ?_ | refine LdSl.g hO ?_ | refine LdP.g hO ?_ | refine LdM.g hO ?_ | refine LdB.g hO ?_ | refine cell_g hO ?_ | refine Rq.go (by omega) ?_ | refine Rng.go (by omega) ?_ | (refine st1.g hO ?_; clear hO; intro h hO; dsimp only [ad, List.set] at hO)))
 refine LdV.g hO ?_
 (repeat (with_reducible first | refine NN.go ?_ | refine LdI.g hO ?_ | refine LdSl.g hO ?_ | refine LdP.g hO ?_ | refine LdM.g hO ?_ | refine LdB.g hO ?_ | refine cell_g hO ?_ | refine Rq.go (by omega) ?_ | refine Rng.go (by omega) ?_ | (refine st1.g hO ?_; clear hO; intro h hO; dsimp only [ad, List.set] at hO)))
 refine callExt (e := fnElem) Tryz.func160 (by kernel_rfl) (by kernel_rfl) (by kernel_rfl) (by kernel_rfl) ?_
 refine ld_sl (elvPPa r1) (hcell_own (a := ⟨r1, 0, none⟩) hO (Find.there _ _ _ _ _) (by with_unfolding_all rfl)) ?_
 refine SlR.pr (elvPPk r1 t) ⟨_, _, _, rfl, ?_⟩
 refine callExt (e := λ args => ReflectliteValue.unpack (args.getD 0 (.tuple #[]))) Tryz.func126 (by kernel_rfl) (by kernel_rfl) (by kernel_rfl) (by kernel_rfl) ?_
 refine SlR.eq uP (newK.go hO ?_)
 clear hO; intro r9 h hO
 refine ⟨_, _, _, rfl, ?_⟩
 refine callExt (e := ReflectliteValue.set) Tryz.func161 (by kernel_rfl) (by kernel_rfl) (by kernel_rfl) (by kernel_rfl) ?_
 refine ld_sl (setPa r9 t) (hcell_own (a := ⟨r9, 0, none⟩) hO (Find.here _ _ _) (by with_unfolding_all rfl)) ?_
 refine st_sl (setPs r9 t _) (st1.g hO ?_)
 clear hO; intro h hO
 dsimp only [List.set] at hO
 refine SlR.pr (setPk r9 t _) ⟨rfl, _, rfl, hK _ ?_⟩
 (refine hO.sp λ a => ?_; simp only [cnt_app, List.append_eq, cnt_cons, cnt_nil]; omega)
end Go.Sl
set_option maxRecDepth 100000
namespace Go.Sl
open Go Go.Proofs
variable {G h : Heap} {L R : List Heap} {K : Value -> Heap -> Prop} {Kp : PK}
def rdrE (b : Nat) (q : Option Addr) (l k at_ f : Nat) : Heap := single b (.cells #[.slice q l k, .int .i64 at_, fltV f] 318 (0, 0))
theorem octNextErr {b l k at_ f : Nat} {q : Option Addr} {n : Int} (hO : Own G h (rdrE b q l k at_ f :: L)) (hK : K (.slice none 0 0) h) : CallF Tryz.prog G 186 #[.pointer (some ⟨b, 0, none⟩), .int .i64 n] K Kp h := by
 refine S186_ok ?_
 unfold rdrE at hO
 unfold S186
 refine NN.go (LdV.go hO (by with_unfolding_all rfl) (Rq.go (.inr ⟨_, _, rfl⟩) (If.f rfl ?_)))
 unfold S186_k1
 refine If.f rfl ?_
 unfold S186_k2
 exact NN.go (LdV.go hO (by with_unfolding_all rfl) (Rq.go (.inr ⟨_, _, rfl⟩) (If.t rfl hK)))
theorem octNextShort {b l k at_ n : Nat} {q : Option Addr} (hO : Own G h (rdr b q l k at_ (0, 0) :: L)) (hn : 1 <= n) (hs : l < at_ + n) (ha : at_ <= l) (hsm : l <= 4294967296)
  (hK : ∀ h' f, Own G h' (rdrE b q l k at_ f :: FaultC f at_ 10 :: L) -> K (.slice none 0 0) h') : CallF Tryz.prog G 186 #[.pointer (some ⟨b, 0, none⟩), .int .i64 n] K Kp h := by
 refine S186_ok ?_
 unfold rdr at hO
 unfold S186
 refine NN.go (LdV.go hO (by with_unfolding_all rfl) (Rq.go (.inl rfl) (If.t rfl (If.dec (λ _ => by omega) λ _ => NN.go (LdSl.go hO (by with_unfolding_all rfl) (NN.go (LdI.go hO (by with_unfolding_all rfl) (Rng.go (by omega) ?_))))))))
 unfold S186_k1
 refine If.t (by simp; omega) (NN.go (LdI.go hO (by with_unfolding_all rfl) (apiWrap hO λ h f hO => ⟨_, rfl, NN.go (st1.g hO ?_)⟩)))
 clear hO; intro h hO
 unfold S186_k2
 refine NN.go (LdV.go hO (by with_unfolding_all rfl) (Rq.go (.inr ⟨_, _, rfl⟩) (If.t rfl (hK _ f ?_))))
 unfold rdrE
 dsimp only [ad, List.set, Nat.zero_add] at hO
 (refine hO.sp λ a => ?_; simp only [cnt_app, List.append_eq, cnt_cons, cnt_nil]; omega)
theorem octNumNil {b : Nat} {n : Int} (hc : CallF Tryz.prog G 186 #[.pointer (some ⟨b, 0, none⟩), .int .i64 n] (λ v h' => v = .slice none 0 0 /\ K (.int .u32 0) h') Kp h) : CallF Tryz.prog G 180 #[.pointer (some ⟨b, 0, none⟩), .int .i64 n] K Kp h := by
 refine S180_ok ?_
 unfold S180
 refine ⟨slN_mono (λ v h' hh => ?_) hc.run⟩
 obtain ⟨rfl, hk⟩ := hh
 refine ⟨_, _, _, rfl, LoopS.go (λ vs h2 => h2 = h' /\ vs = [.int .u32 0, .int .i64 0]) (λ _ _ => 0) ⟨rfl, rfl⟩ ?_⟩
 rintro jv vs h2 ⟨rfl, rfl⟩
 unfold S180_l3
 refine ⟨_, _, rfl, If.dec (λ e => by omega) λ _ => ?_⟩
 unfold S180_k1
 exact hk
theorem octU16Short {b l k at_ : Nat} {q : Option Addr} (hO : Own G h (rdr b q l k at_ (0, 0) :: L)) (hs : l < at_ + 2) (ha : at_ <= l) (hsm : l <= 4294967296)
  (hK : ∀ h' f, Own G h' (rdrE b q l k at_ f :: FaultC f at_ 10 :: L) -> K (.int .i64 0) h') : CallF Tryz.prog G 155 #[.pointer (some ⟨b, 0, none⟩)] K Kp h := by
 refine S155_ok ?_
 unfold S155
 exact octNumNil (octNextShort (n := 2) hO (by omega) hs ha hsm λ h f hO => ⟨rfl, _, rfl, hK _ f hO⟩)
theorem octU16Err {b l k at_ f : Nat} {q : Option Addr} (hO : Own G h (rdrE b q l k at_ f :: L)) (hK : K (.int .i64 0) h) : CallF Tryz.prog G 155 #[.pointer (some ⟨b, 0, none⟩)] K Kp h := by
 refine S155_ok ?_
 unfold S155
 exact octNumNil (octNextErr hO ⟨rfl, _, rfl, hK⟩)
theorem octErrE {b l k at_ f : Nat} {q : Option Addr} (hO : Own G h (rdrE b q l k at_ f :: L)) (hK : K (fltV f) h) : CallF Tryz.prog G 157 #[.pointer (some ⟨b, 0, none⟩)] K Kp h := by
 refine S157_ok ?_
 unfold S157 rdrE at *
 exact NN.go (LdV.go hO (by with_unfolding_all rfl) hK)
theorem sum4_get {s : Int} {j : Nat} (hj : j < 4) : (sum4 s)[j]? = some (byt (Int.fdiv s (2 ^ (min (Int.toNat (8 * (j : Int))) 32)))) := by
 have : j = 0 ∨ j = 1 ∨ j = 2 ∨ j = 3 := by omega
 rcases this with h | h | h | h <;> subst h <;> simp [sum4]
theorem octOpenBad {b o l c : Nat} {ys : List UInt8} (hG : Gl G) (hO : Own G h L) (hr : Rdl L eU8 (some ⟨b, o, none⟩) l ys) (hc : l <= c) (hsm : l <= 4294967296) (h4 : 4 <= l) (hbad : sum4 (crc (ys.take (l - 4))) ≠ ys.drop (l - 4))
  (hK : ∀ h' f, Own G h' (FaultC f ((l : Int) - 4) 11 :: L) -> K (.tuple #[.slice none 0 0, fltV f]) h') : CallF Tryz.prog G 158 #[.slice (some ⟨b, o, none⟩) l c] K Kp h := by
 refine S158_ok ?_
 have hl := hr.len hO
 have hr0 : Rdl L eU8 (some ⟨b, o, none⟩) (l - 4) (ys.take (l - 4)) := by
  have := hr.part eU8_ok 0 (l - 4) (by omega)
  simpa using this
 unfold S158
 refine If.dec (λ _ => by omega) (λ _ => Rng.go (by omega) (Rq.go (by omega) ?_))
 rw [show ((l : Int) - 4).toNat = l - 4 by omega]
 refine octSum hG hO hr0 (by omega) ⟨_, rfl, ?_⟩
 refine LoopS.go (λ vs h' => h' = h /\ ∃ n : Nat, n <= 4 /\ vs = [.int .i64 n] /\ ∀ j, j < n -> (sum4 (crc (ys.take (l - 4))))[j]? = (ys.drop (l - 4))[j]?) (λ vs _ => match vs with | [.int _ n] => (4 - n).toNat | _ => 0) ⟨rfl, 0, by omega, by simp, λ j hj => by omega⟩ ?_
 rintro jv vs h' ⟨rfl, n, hn, rfl, hpre⟩
 unfold S158_l6
 refine ⟨_, rfl, ?_⟩
 refine If.dec (λ hlt => ?_) (λ hlt => ?_)
 ·refine Rng.go (by omega) (Rq.go (by omega) ?_)
  obtain ⟨x, hx, hn'⟩ := hr.at eU8_ok hO (i := (l : Int) - 4 + n) (by omega) (by omega)
  refine hn' _ λ a _ hc => ?_
  refine LdI.i (hc 0 _ rfl) (Rng.go (by omega) (Rq.go (by omega) ?_))
  refine If.mk (λ e => apiWrap hO λ h f hO => ⟨_, rfl, hK _ f hO⟩) (λ e => Rng.go (by omega) ⟨⟨rfl, n + 1, by omega, rfl, λ j hj => ?_⟩, by simp only; omega⟩)
  rcases Nat.lt_or_ge j n with hjn | hjn
  ·exact hpre j hjn
  ·have hjn : j = n := by omega
   subst hjn
   rw [sum4_get (by omega), List.getElem?_drop, show l - 4 + j = ((l : Int) - 4 + j).toNat by omega, hx]
   congr 1
   rw [<- byt_nat] at e
   have e2 : (x.toNat : Int) = ((byt (Int.fdiv (crc (ys.take (l - 4))) (2 ^ (min (Int.toNat (8 * (j : Int))) 32)))).toNat : Int) := by simpa using e
   exact (UInt8.toNat_inj.1 (by omega)).symm
 ·exfalso
  refine hbad (List.ext_getElem? λ j => ?_)
  rcases Nat.lt_or_ge j 4 with hj | hj
  ·exact hpre j (by omega)
  ·rw [List.getElem?_eq_none (by simp [sum4]; omega), List.getElem?_eq_none (by rw [List.length_drop]; omega)]
def h16 (bs : List UInt8) (i : Nat) : Nat := ((bs[i]?).getD 0).toNat * 256 + ((bs[i + 1]?).getD 0).toNat
def recE (tl : List UInt8) : Option Int :=
 if tl.length < 4 then some 32
 else if h16 tl 0 + h16 tl 2 ≠ 65535 ∨ h16 tl 0 < 1 ∨ 64 < h16 tl 0 then some 31
 else if tl.length < h16 tl 0 + 8 then some 32
 else if sum4 (crc (tl.take (h16 tl 0 + 4))) = (tl.drop (h16 tl 0 + 4)).take 4 then none else some 33
theorem h16_le (bs : List UInt8) (i : Nat) : h16 bs i < 65536 := by
 have h1 := ((bs[i]?).getD 0).toNat_lt
 have h2 := ((bs[i + 1]?).getD 0).toNat_lt
 unfold h16; omega
theorem getD_of {bs : List UInt8} {i : Nat} (h : i < bs.length) : bs[i]? = some ((bs[i]?).getD 0) := by
 rw [List.getElem?_eq_getElem h]; rfl
theorem walRecordBad {q l c at_ : Nat} {bs pre tl : List UInt8} {e : Int} (hG : Gl G) (hO : Own G h L) (hr : Rdl L eU8 (some ⟨q, 0, none⟩) l bs) (hc : l <= c) (hsm : c <= 4294967296)
  (hb : bs = pre ++ tl) (hat : at_ = pre.length) (hne : 0 < tl.length) (he : recE tl = some e)
  (hK : ∀ h' f, Own G h' (FaultC f at_ e :: L) -> K (.tuple #[.slice none 0 0, fltV f]) h') : CallF Tryz.prog G 125 #[.slice (some ⟨q, 0, none⟩) l c, .int .i64 at_] K Kp h := by
 have hl := hr.len hO
 have hlen : l = at_ + tl.length := by rw [hl, hb, hat]; simp
 have hdrop : bs.drop at_ = tl := by rw [hb, hat, List.drop_left]
 refine S125_ok ?_
 unfold S125
 unfold recE at he
 by_cases h4 : tl.length < 4
 ·rw [if_pos h4] at he
  cases he
  have hmin : minI ((l : Nat) : Int) ((at_ : Int) + 4) = (l : Int) := by unfold minI; split <;> omega
  rw [hmin]
  refine Rng.go (by omega) (Rq.go (by omega) (Rq.go (by omega) ?_))
  rw [Int.toNat_natCast, subA_lt (by omega), Int.toNat_natCast, show l - at_ = tl.length by omega]
  have hr4 := hr.part eU8_ok at_ tl.length (by omega)
  rw [hdrop, List.take_length, show (0 : Nat) + at_ * eU8.m = 0 + at_ by simp [eU8]] at hr4
  refine octNewReader hO hr4 (by omega) λ h b qq pc hs hO => ⟨_, rfl, ?_⟩
  have hrd : Rdl (pc :: L) eU8 (some ⟨qq, 0, none⟩) tl.length tl := hs.rdl (by simp)
  have fin : ∀ {h : Heap} {b at2 f : Nat} {q2 : Option Addr} {l2 k2 a2 : Nat} (hO : Own G h (rdrE b q2 l2 k2 at2 f :: FaultC f a2 10 :: pc :: L)) (n m : Int), CallF Tryz.prog G 157 #[.pointer (some ⟨b, 0, none⟩)] (λ r_14 h => ∃ v_11, r_14 = v_11 /\ CallF Tryz.prog G 156 #[v_11, errV 10] (λ r_13 h => ∃ b_12, r_13 = (Value.bool b_12) /\ (If b_12 (CallF Tryz.prog G 43 #[(Value.int .i64 at_), (Value.int .i64 32)] (λ r_16 h => ∃ v_15, r_16 = v_15 /\ (K (Value.tuple #[(Value.slice none 0 0), v_15]) h)) Kp h) ((Rng (n + m) (If ((n + m) != 65535) ((S125_k1 G K Kp at_ l n c (some ⟨q, 0, none⟩) true h)) (If (decide (n < 1)) ((S125_k1 G K Kp at_ l n c (some ⟨q, 0, none⟩) true h)) ((S125_k1 G K Kp at_ l n c (some ⟨q, 0, none⟩) (decide (n > 64)) h)))))))) Kp h) Kp h := λ {h b at2 f q2 l2 k2 a2} hO n m => by
   refine octErrE hO ⟨_, rfl, errIs (a := a2) (e := 10) hO ⟨_, rfl, If.t rfl ?_⟩⟩
   exact apiWrap hO λ h f hO => ⟨_, rfl, hK _ f (by (refine hO.sp λ a => ?_; simp only [cnt_app, List.append_eq, cnt_cons, cnt_nil]; omega))⟩
  by_cases h2 : tl.length < 2
  ·refine octU16Short hO (by omega) (by omega) (by omega) λ h f hO => ⟨_, rfl, octU16Err hO ⟨_, rfl, ?_⟩⟩
   exact fin hO 0 0
  ·refine octU16 hO hrd (by omega) (by omega) (getD_of (by omega)) (getD_of (by omega)) λ h hO => ⟨_, rfl, ?_⟩
   refine octU16Short hO (by omega) (by omega) (by omega) λ h f hO => ⟨_, rfl, ?_⟩
   exact fin hO _ 0
 ·rw [if_neg h4] at he
  have hmin : minI ((l : Nat) : Int) ((at_ : Int) + 4) = (at_ : Int) + 4 := by unfold minI; split <;> omega
  rw [hmin]
  refine Rng.go (by omega) (Rq.go (by omega) (Rq.go (by omega) ?_))
  rw [Int.toNat_natCast, subA_lt (by omega), show ((at_ : Int) + 4).toNat - at_ = 4 by omega]
  have hr4 := hr.part eU8_ok at_ 4 (by omega)
  rw [hdrop, show (0 : Nat) + at_ * eU8.m = 0 + at_ by simp [eU8]] at hr4
  refine octNewReader hO hr4 (by omega) λ h b qq pc hs hO => ⟨_, rfl, ?_⟩
  have hrd : Rdl (pc :: L) eU8 (some ⟨qq, 0, none⟩) 4 (tl.take 4) := hs.rdl (by simp)
  have hg : ∀ i, i < 4 -> (tl.take 4)[i]? = some ((tl[i]?).getD 0) := λ i hi => by
   rw [List.getElem?_take, if_pos hi]; exact getD_of (by omega)
  refine octU16 hO hrd (by omega) (by omega) (hg 0 (by omega)) (hg 1 (by omega)) λ h hO => ⟨_, rfl, ?_⟩
  refine octU16 hO hrd (by omega) (by omega) (hg 2 (by omega)) (hg 3 (by omega)) λ h hO => ⟨_, rfl, ?_⟩
  have e0 : ((tl[0]?).getD 0).toNat * 256 + ((tl[1]?).getD 0).toNat = h16 tl 0 := rfl
  have e2 : ((tl[2]?).getD 0).toNat * 256 + ((tl[3]?).getD 0).toNat = h16 tl 2 := rfl
  have hb0 := h16_le tl 0
  have hb2 := h16_le tl 2
  rw [e0, e2]
  clear e0 e2
  generalize h16 tl 0 = n at he hb0 ⊢
  generalize h16 tl 2 = m at he hb2 ⊢
  refine octErr hO ⟨_, rfl, errIsNil ⟨_, rfl, If.f rfl (Rng.go (by omega) ?_)⟩⟩
  have hO := hO.drop1.drop1
  have bad : e = 31 -> S125_k1 G K Kp at_ l n c (some ⟨q, 0, none⟩) true h := λ e1 => by
   subst e1
   unfold S125_k1
   exact If.t rfl (apiWrap hO λ h f hO => ⟨_, rfl, hK _ f hO⟩)
  by_cases hh : n + m ≠ 65535 ∨ n < 1 ∨ 64 < n
  ·rw [if_pos hh] at he
   have e1 : e = 31 := by cases he; rfl
   by_cases h1 : n + m = 65535
   ·refine If.f (by simp; omega) (If.dec (λ _ => bad e1) λ hn => ?_)
    rw [show decide (((n : Nat) : Int) > 64) = true by simp; omega]
    exact bad e1
   ·exact If.t (by simp; omega) (bad e1)
  ·rw [if_neg hh] at he
   refine If.f (by simp; omega) (If.dec (λ _ => by omega) λ _ => ?_)
   unfold S125_k1
   refine If.f (by simp; omega) (Rng.go (by omega) (Rng.go (by omega) (If.dec (λ hs => ?_) λ hs => ?_)))
   ·rw [if_pos (by omega)] at he
    cases he
    exact apiWrap hO λ h f hO => ⟨_, rfl, hK _ f hO⟩
   ·rw [if_neg (by omega)] at he
    refine Rng.go (by omega) (Rng.go (by omega) (Rq.go (by omega) (Rq.go (by omega) ?_)))
    rw [Int.toNat_natCast, subA_lt (by omega), show ((at_ : Int) + (n : Int) + 8).toNat - at_ = n + 8 by omega]
    have hrf := hr.part eU8_ok at_ (n + 8) (by omega)
    rw [hdrop, show (0 : Nat) + at_ * eU8.m = 0 + at_ by simp [eU8]] at hrf
    have hsum : sum4 (crc (tl.take (n + 4))) ≠ (tl.drop (n + 4)).take 4 := λ hx => by rw [if_pos hx] at he; cases he
    rw [if_neg hsum] at he
    cases he
    refine octOpenBad hG hO hrf (by omega) (by omega) (by omega) ?_ λ h f hO => ?_
    ·rw [show n + 8 - 4 = n + 4 by omega, List.take_take, Nat.min_eq_left (by omega), List.drop_take, show n + 8 - (n + 4) = 4 by omega]
     exact hsum
    ·refine ⟨_, _, _, _, rfl, errIs (a := ((n + 8 : Nat) : Int) - 4) (e := 11) hO ⟨_, rfl, If.t rfl (apiWrap hO λ h f2 hO => ⟨_, rfl, hK _ f2 (by (refine hO.sp λ a => ?_; simp only [cnt_app, List.append_eq, cnt_cons, cnt_nil]; omega))⟩)⟩⟩
end Go.Sl
set_option maxRecDepth 100000
namespace Go.Sl
open Go Go.Proofs
variable {G h : Heap} {L R : List Heap} {K : Value -> Heap -> Prop} {Kp : PK}
def eSl : En (Option Addr × Nat × Nat) := ⟨49, 1, λ x => [.slice x.1 x.2.1 x.2.2], (none, 0, 0)⟩
theorem eSl_ok : eSl.Ok := ⟨λ _ => rfl, by decide, λ x v hv => by simp [eSl] at hv; subst hv; rfl⟩
theorem tSl : SlT Tryz.prog 142 eSl := ⟨eSl_ok, rfl, ⟨_, rfl, rfl, by decide, _, rfl, rfl⟩⟩
structure Pls (hs : List (Option Addr × Nat × Nat)) (pls : List (List UInt8)) (pcs : List Heap) : Prop where
 l1 : hs.length = pls.length
 l2 : pcs.length = pls.length
 rd : ∀ (i : Nat) (hd : Option Addr × Nat × Nat) (pl : List UInt8) (pc : Heap), hs[i]? = some hd -> pls[i]? = some pl -> pcs[i]? = some pc -> Rs eU8 hd.1 hd.2.1 pl pc /\ hd.2.1 <= hd.2.2
theorem Pls.nil : Pls [] [] [] := ⟨rfl, rfl, λ i hd pl pc h => by simp at h⟩
theorem Pls.snoc {hs : List (Option Addr × Nat × Nat)} {pls : List (List UInt8)} {pcs : List Heap} (h : Pls hs pls pcs) {p : Option Addr} {l c : Nat} {pl : List UInt8} {pc : Heap} (hr : Rs eU8 p l pl pc) (hc : l <= c) : Pls (hs ++ [(p, l, c)]) (pls ++ [pl]) (pcs ++ [pc]) := by
 obtain ⟨h1, h2, h3⟩ := h
 refine ⟨by simp [h1], by simp [h2], λ i hd pl' pc' e1 e2 e3 => ?_⟩
 by_cases hi : i < pls.length
 ·rw [List.getElem?_append_left (by omega)] at e1 e2 e3
  exact h3 i hd pl' pc' e1 e2 e3
 ·by_cases hi2 : i = pls.length
  ·subst hi2
   rw [List.getElem?_append_right (by omega)] at e1 e2 e3
   simp only [h1, h2, Nat.sub_self, List.getElem?_cons_zero, Option.some.injEq] at e1 e2 e3
   subst e1; subst e2; subst e3
   exact ⟨hr, hc⟩
  ·rw [List.getElem?_eq_none (by simp; omega)] at e2; cases e2
def frames (pls : List (List UInt8)) : List UInt8 := pls.flatMap frame
def ScE (tl : List UInt8) (at_ : Int) (v : Value) (cf : Heap) : Prop := (tl = [] /\ v = .nilIface /\ cf = emp) ∨ (tl ≠ [] /\ ∃ e f, recE tl = some e /\ v = fltV f /\ cf = FaultC f at_ e)
def Tl (tl : List UInt8) : Prop := tl = [] ∨ (tl ≠ [] /\ ∃ e, recE tl = some e)
theorem ScE.nil {a : Int} {v : Value} {cf : Heap} (h : ScE [] a v cf) : v = .nilIface /\ cf = emp := by
 rcases h with ⟨_, h1, h2⟩ | ⟨h, _⟩
 ·exact ⟨h1, h2⟩
 ·exact absurd rfl h
theorem walScan {q l c : Nat} {pls : List (List UInt8)} {tl : List UInt8} (hG : Gl G) (hO : Own G h L) (hr : Rdl L eU8 (some ⟨q, 0, none⟩) l (frames pls ++ tl)) (hc : l <= c) (hsm : c <= 2147483648) (hpl : ∀ pl ∈ pls, 1 <= pl.length /\ pl.length <= 64) (htl : Tl tl)
  (hK : ∀ h' p k c hs ps pcs v cf, Sli eSl p k c hs ps -> Pls hs pls pcs -> ScE tl (frames pls).length v cf -> Own G h' (ps :: cf :: (pcs ++ L)) -> K (.tuple #[.slice p k c, .int .i64 (frames pls).length, v]) h') : CallF Tryz.prog G 84 #[.slice (some ⟨q, 0, none⟩) l c] K Kp h := by
 have hl := hr.len hO
 rw [List.length_append] at hl
 refine S84_ok ?_
 unfold S84
 refine LoopS.go (λ vs h' => ∃ n p k c hs ps pcs, n <= pls.length /\ vs = [.slice p k c, .nilIface, .int .i64 ((frames (pls.take n)).length : Nat)] /\ Sli eSl p k c hs ps /\ Pls hs (pls.take n) pcs /\ Own G h' (ps :: (pcs ++ L))) (λ vs _ => match vs with | [_, _, .int _ n] => (l - n).toNat | _ => 0) ⟨0, none, 0, 0, [], emp, [], by omega, by simp [frames], .no, by simpa using Pls.nil, ?_⟩ ?_
 ·exact (hO.addEmp0)
 rintro jv vs h' ⟨n, p, k, c1, hs, ps, pcs, hn, rfl, hsl, hpls, hO⟩
 unfold S84_l4
 have hsplit : frames pls = frames (pls.take n) ++ frames (pls.drop n) := by unfold frames; rw [<- List.flatMap_append, List.take_append_drop]
 have hkl : k = n := by rw [hsl.len, hpls.l1]; simp; omega
 have hfl : ∀ ms : List (List UInt8), 8 * ms.length <= (frames ms).length := by
  intro ms
  induction ms with
  | nil => simp
  | cons m ms ih => simp only [frames, List.flatMap_cons, List.length_append, frame_len, List.length_cons] at ih ⊢; omega
 have hnl := hfl pls
 have hr2 : Rdl (ps :: (pcs ++ L)) eU8 (some ⟨q, 0, none⟩) l (frames pls ++ tl) := hr.sub (List.Sublist.cons _ (List.sublist_append_right _ _))
 refine ⟨_, _, _, _, _, rfl, If.dec (λ hlt => ?_) (λ hlt => ?_)⟩
 ·rcases Nat.lt_or_ge n pls.length with hnp | hnp
  ·have hdrop : pls.drop n = pls[n] :: pls.drop (n + 1) := List.drop_eq_getElem_cons hnp
   have hmem := hpl pls[n] (List.getElem_mem hnp)
   have htk : pls.take (n + 1) = pls.take n ++ [pls[n]] := by rw [List.take_add_one, List.getElem?_eq_getElem hnp]; rfl
   have hftk : frames (pls.take (n + 1)) = frames (pls.take n) ++ frame pls[n] := by rw [htk]; unfold frames; rw [List.flatMap_append]; simp
   have hle : (frames (pls.take (n + 1))).length <= (frames pls).length := by
    rw [show frames pls = frames (pls.take (n + 1)) ++ frames (pls.drop (n + 1)) by unfold frames; rw [<- List.flatMap_append, List.take_append_drop]]
    simp
   rw [hftk, List.length_append, frame_len] at hle
   refine walRecord (pl := pls[n]) (pre := frames (pls.take n)) (post := frames (pls.drop (n + 1)) ++ tl) hG hO hr2 hc (by omega) (by rw [hsplit, hdrop]; simp only [frames, List.flatMap_cons, List.append_assoc]) rfl hmem.1 hmem.2 λ h b pc hrs hO => ?_
   refine ⟨_, _, _, _, rfl, Rq.go (.inl rfl) (If.f rfl (newK.go hO ?_))⟩
   intro r h hO
   refine append1 tSl hO hsl (y := (some ⟨b, 4, none⟩, pls[n].length, pls[n].length)) rfl (by omega) λ h p' c' ps' hsl hO => ?_
   refine ⟨_, _, _, rfl, Rng.go (by omega) (Rng.go (by omega) ⟨⟨n + 1, _, _, _, _, _, pcs ++ [pc], by omega, ?_, hsl, ?_, ?_⟩, ?_⟩)⟩
   ·rw [hftk, List.length_append, frame_len]; simp only [List.cons.injEq, Value.int.injEq, and_true, true_and]; omega
   ·rw [htk]; exact hpls.snoc hrs (Nat.le_refl _)
   ·refine hO.perm ?_
    refine List.Perm.cons _ ?_
    rw [List.append_assoc]; exact List.perm_middle
   ·simp only; omega
  ·have hnp : n = pls.length := by omega
   subst hnp
   rw [List.take_length] at hpls hlt ⊢
   rcases htl with rfl | ⟨hne, e, he⟩
   ·exfalso; simp only [List.length_nil] at hl; omega
   ·refine walRecordBad hG hO hr2 hc (by omega) rfl rfl (List.length_pos_iff.2 hne) he λ h f hO => ⟨_, _, _, _, rfl, Rq.go (.inr ⟨_, _, rfl⟩) (If.t rfl ?_)⟩
    unfold S84_k1
    exact hK _ _ _ _ _ _ _ _ _ hsl hpls (.inr ⟨hne, e, f, he, rfl, rfl⟩) (hO.perm (List.Perm.swap _ _ _))
 ·unfold S84_k1
  have hnp : n = pls.length := by
   rcases Nat.lt_or_ge n pls.length with h | h
   ·exfalso
    have hdrop : pls.drop n = pls[n] :: pls.drop (n + 1) := List.drop_eq_getElem_cons h
    have : (frames pls).length = (frames (pls.take n)).length + ((pls[n].length + 8) + (frames (pls.drop (n + 1))).length) := by
     rw [hsplit, hdrop, List.length_append]; simp only [frames, List.flatMap_cons, List.length_append, frame_len]
    omega
   ·omega
  subst hnp
  rw [List.take_length] at hpls hlt ⊢
  have h0 : tl = [] := List.length_eq_zero_iff.1 (by omega)
  exact hK _ _ _ _ _ _ _ _ _ hsl hpls (.inl ⟨h0, rfl, rfl⟩) hO.addEmp
end Go.Sl
set_option maxRecDepth 100000
namespace Go.Sl
open Go Go.Proofs
variable {G h : Heap} {L R : List Heap} {K : Value -> Heap -> Prop} {Kp : PK}
def eI : En Int := ⟨3, 1, λ x => [.int .i64 x], 0⟩
theorem eI_ok : eI.Ok := ⟨λ _ => rfl, by decide, λ x v hv => by simp [eI] at hv; subst hv; rfl⟩
theorem tI : SlT Tryz.prog 23 eI := ⟨eI_ok, rfl, ⟨_, rfl, rfl, by decide, _, rfl, rfl⟩⟩
theorem frames_app (a b : List (List UInt8)) : frames (a ++ b) = frames a ++ frames b := by simp [frames]
theorem frames_one (a : List UInt8) : frames [a] = frame a := by simp [frames]
def endsL (pls : List (List UInt8)) : List Int := (List.range pls.length).map λ i => ((frames (pls.take (i + 1))).length : Int)
theorem endsL_snoc (pls : List (List UInt8)) (pl : List UInt8) : endsL (pls ++ [pl]) = endsL pls ++ [((frames pls).length : Int) + pl.length + 8] := by
 unfold endsL
 rw [List.length_append, List.length_singleton, List.range_succ, List.map_append]
 congr 1
 ·apply List.map_congr_left
  intro i hi
  rw [List.mem_range] at hi
  rw [List.take_append_of_le_length (by omega)]
 ·simp only [List.map_cons, List.map_nil]
  rw [List.take_of_length_le (by simp), frames_app, frames_one, List.length_append, frame_len]
  simp only [List.cons.injEq, and_true]; omega
theorem endsL_len (pls : List (List UInt8)) : (endsL pls).length = pls.length := by simp [endsL]
theorem endsL_last {pls : List (List UInt8)} (h : 0 < pls.length) : (endsL pls)[pls.length - 1]? = some ((frames pls).length : Int) := by
 unfold endsL
 rw [List.getElem?_map, List.getElem?_range (by omega)]
 simp only [Option.map_some]
 rw [List.take_of_length_le (by omega)]
def LogQ (p d : Option Addr) (pls : List (List UInt8)) (c : Heap) : Prop :=
 ∃ b q l k hs ps q2 l2 k2 pe pcs, p = some ⟨b, 0, none⟩ /\ Sli eSl q l k hs ps /\ Pls hs pls pcs /\ Sli eI q2 l2 k2 (endsL pls) pe /\
  JoinOf c (single b (.cells #[.pointer d, .slice q l k, .slice q2 l2 k2] 171 (0, 0)) :: ps :: pe :: pcs)
def LogP (p d : Option Addr) (pls : List (List UInt8)) (n : Nat) (c : Heap) : Prop :=
 ∃ cq cd, LogQ p d pls cq /\ DiskP d (frames pls) n cd /\ JoinOf c [cq, cd]
theorem walEnd {b : Nat} {o : Obj} {u : Obj -> List Heap} {d q q2 : Option Addr} {l k l2 k2 : Nat} {pls : List (List UInt8)} {pe : Heap} {z : Nat × Nat} (hO : Own G h L) [f : Find L b o u] (ho : o = .cells #[.pointer d, .slice q l k, .slice q2 l2 k2] 171 z) (hs : Sli eI q2 l2 k2 (endsL pls) pe) (hm : pe ∈ L) (hsm : pls.length <= 4294967296)
  (hK : K (.int .i64 (frames pls).length) h) : CallF Tryz.prog G 91 #[.pointer (some ⟨b, 0, none⟩)] K Kp h := by
 refine S91_ok ?_
 subst ho
 have hl := hs.len
 rw [endsL_len] at hl
 unfold S91
 refine NN.go (LdSl.go hO (by with_unfolding_all rfl) (If.mk (λ e => ?_) (λ e => ?_)))
 ·have : pls = [] := List.length_eq_zero_iff.1 (by simp at e; omega)
  subst this; exact hK
 ·have hpos : 0 < pls.length := by simp at e; omega
  refine NN.go (LdSl.go hO (by with_unfolding_all rfl) (NN.go (LdSl.go hO (by with_unfolding_all rfl) (Rng.go (by omega) (Rq.go (by omega) ?_)))))
  obtain ⟨x, hx, hn⟩ := (hs.rdl hm).at eI_ok hO (i := (l2 : Int) - 1) (by omega) (by omega)
  refine hn _ λ a _ hc => ?_
  refine LdI.i (hc 0 _ rfl) ?_
  rw [show ((l2 : Int) - 1).toNat = pls.length - 1 by omega, endsL_last hpos] at hx
  cases hx
  exact hK
theorem walHold {p d pa : Option Addr} {l c : Nat} {pls : List (List UInt8)} {pl : List UInt8} {cq pc : Heap} (hO : Own G h L) (t : (cq :: pc :: R).Perm L) (hq : LogQ p d pls cq) (hr : Rs eU8 pa l pl pc) (hc : l <= c) (hl : l = pl.length) (h64 : pl.length <= 64) (hsm : (frames pls).length <= 1000000) (hsm2 : pls.length <= 1000000)
  (hK : ∀ h' cq', LogQ p d (pls ++ [pl]) cq' -> Own G h' (cq' :: R) -> K (.tuple #[]) h') : CallF Tryz.prog G 85 #[.pointer p, .slice pa l c] K Kp h := by
 refine S85_ok ?_
 obtain ⟨b, q, l1, k, hs, ps, q2, l2, k2, pe, pcs, rfl, hs1, hpls, hs2, hj⟩ := hq
 have hO : Own G h (_ :: _ :: _ :: _) := (hO.perm t).openJ hj
 have e1 := hs1.len
 have e2 := hs2.len
 rw [endsL_len] at e2
 have e3 := hpls.l1
 unfold S85
 refine NN.go (LdSl.go hO (by with_unfolding_all rfl) (newK.go hO ?_))
 intro r h hO
 refine append1 tSl hO hs1 (y := (pa, l, c)) rfl (by omega) λ h q' c' ps' hs1 hO => ?_
 refine ⟨_, _, _, rfl, NN.go (st1.g hO ?_)⟩
 intro h hO
 dsimp only [ad, List.set] at hO
 refine NN.go (LdSl.g hO ?_)
 refine walEnd hO rfl hs2 (by simp) (by omega) ?_
 refine ⟨_, rfl, cell_go hO (by with_unfolding_all rfl) (Rng.go (by omega) (Rng.go (by omega) (newK.go hO ?_)))⟩
 intro r2 h hO
 refine cell_g hO ?_
 refine append1 tI hO hs2 (y := ((frames pls).length : Int) + l + 8) rfl (by omega) λ h q2' c2' pe' hs2 hO => ?_
 refine ⟨_, _, _, rfl, NN.go (st1.g hO ?_)⟩
 intro h hO
 dsimp only [ad, List.set] at hO
 have hO : Own G h ((single b (.cells #[.pointer d, .slice q' (l1 + 1) c', .slice q2' (l2 + 1) c2'] 171 (0, 0)) :: ps' :: pe' :: (pcs ++ [pc])) ++ R) := hO.perm (by (refine perm_cnt λ a => ?_; simp only [cnt_app, List.append_eq, cnt_cons, cnt_nil]; omega))
 obtain ⟨hj, hO⟩ := Own.closeJ hO
 refine hK _ _ ⟨_, _, _, _, _, _, _, _, _, _, _, rfl, hs1, hpls.snoc hr hc, ?_, hj⟩ hO
 rw [endsL_snoc, <- hl]; exact hs2
end Go.Sl
set_option maxRecDepth 100000
namespace Go.Sl
open Go Go.Proofs
variable {G h : Heap} {L R : List Heap} {K : Value -> Heap -> Prop} {Kp : PK}
theorem errAsNil {v : Value} (hK : K (.bool false) h) : CallF Tryz.prog G 86 #[.nilIface, v] K Kp h := by
 refine S86_ok ?_
 unfold S86
 exact Rq.go (.inl rfl) (If.t rfl hK)
theorem frames_take_le (pls : List (List UInt8)) (i : Nat) : (frames (pls.take i)).length <= (frames pls).length := by
 have : frames pls = frames (pls.take i) ++ frames (pls.drop i) := by rw [<- frames_app, List.take_append_drop]
 rw [this]; simp
theorem frames_ge {pls : List (List UInt8)} : 8 * pls.length <= (frames pls).length := by
 induction pls with
 | nil => simp
 | cons m ms ih =>
  simp only [frames, List.flatMap_cons, List.length_append, frame_len, List.length_cons] at ih ⊢
  omega
theorem diskCut {p : Option Addr} {bs : List UInt8} {n m : Nat} {c : Heap} (hO : Own G h L) [t : Take L c R] (hd : DiskP p bs n c) (hm : m <= bs.length)
  (hK : ∀ h' c', DiskP p (bs.take m) (min n m) c' -> Own G h' (c' :: R) -> K (.int .i64 0) h') : CallF Tryz.prog G 87 #[.pointer p, .int .i64 m] K Kp h := by
 refine S87_ok ?_
 obtain ⟨b, q, l, k, pc, rfl, hs, hj⟩ := hd
 (have hO := (hO.perm t.perm).openJ hj; simp only [List.cons_append, List.nil_append] at hO)
 have hl := hs.len
 have hc := hs.cap
 unfold S87
 refine If.dec (λ _ => by omega) λ _ => ?_
 (repeat (with_reducible first | refine NN.go ?_ | refine LdI.g hO ?_ | refine LdSl.g hO ?_ | refine LdP.g hO ?_ | refine LdM.g hO ?_ | refine LdB.g hO ?_ | refine cell_g hO ?_ | refine Rq.go (by omega) ?_ | refine Rng.go (by omega) ?_ | (refine st1.g hO ?_; clear hO; intro h hO; dsimp only [ad, List.set] at hO)))
 unfold S87_k1
 refine If.f (by simp; omega) ?_
 (repeat (with_reducible first | refine NN.go ?_ | refine LdI.g hO ?_ | refine LdSl.g hO ?_ | refine LdP.g hO ?_ | refine LdM.g hO ?_ | refine LdB.g hO ?_ | refine cell_g hO ?_ | refine Rq.go (by omega) ?_ | refine Rng.go (by omega) ?_ | (refine st1.g hO ?_; clear hO; intro h hO; dsimp only [ad, List.set] at hO)))
 have e : minI (n : Int) (m : Int) = ((min n m : Nat) : Int) := by unfold minI; split <;> omega
 rw [e] at hO
 rw [Int.toNat_natCast] at hO
 have hO : Own G h ([_, _] ++ _) := hO
 obtain ⟨hj, hO⟩ := Own.closeJ hO
 exact hK _ _ ⟨b, _, _, _, _, rfl, hs.shrink (by omega), hj⟩ hO
theorem walOpen {d : Option Addr} {pls : List (List UInt8)} {tl : List UInt8} {n : Nat} {c : Heap} (hG : Gl G) (hO : Own G h L) [t : Take L c R] (hd : DiskP d (frames pls ++ tl) n c) (hpl : ∀ pl ∈ pls, 1 <= pl.length /\ pl.length <= 64) (htl : Tl tl) (hsm : (frames pls).length + tl.length <= 262144)
  (hK : ∀ h' p v c' cf n', (tl = [] -> n' = n) -> ScE tl (frames pls).length v cf -> LogP p d pls n' c' -> Own G h' (c' :: cf :: R) -> K (.tuple #[.pointer p, v]) h') : CallF Tryz.prog G 61 #[.pointer d] K Kp h := by
 refine S61_ok ?_
 unfold S61
 have hge := frames_ge (pls := pls)
 refine diskBytes hO hd (by rw [List.length_append]; omega) λ h b pb hsb hO => ?_
 refine ⟨_, _, _, rfl, ?_⟩
 refine walScan hG hO (hsb.rdl (by simp)) (by omega) (by rw [List.length_append]; omega) hpl htl λ h p k c1 hs ps pcs v cf hsl hpls hv hO => ?_
 refine ⟨_, _, _, _, _, rfl, newK.go hO ?_⟩
 intro r h hO
 have e1 := hsl.len
 have e2 := hpls.l1
 have e3 := hpls.l2
 have hq0 : Own G h ((single r (.cells #[.pointer d, .slice none 0 0, .slice none 0 0] 171 (0, 0)) :: emp :: emp :: []) ++ (ps :: cf :: (pcs ++ (pb :: L)))) := hO.addEmp.addEmp
 obtain ⟨hj0, hO⟩ := Own.closeJ hq0
 refine LoopS.go (λ vs h' => ∃ (i : Nat) (cq : Heap), i <= pls.length /\ vs = [.int .i64 i] /\ LogQ (some ⟨r, 0, none⟩) d (pls.take i) cq /\ Own G h' (cq :: ps :: (pcs.drop i ++ (cf :: pb :: L)))) (λ vs _ => match vs with | [.int _ n] => (pls.length - n).toNat | _ => 0) ⟨0, _, by omega, rfl, ⟨r, _, _, _, [], emp, _, _, _, emp, [], rfl, .no, Pls.nil, .no, hj0⟩, by rw [List.drop_zero]; (refine hO.sp λ a => ?_; simp only [cnt_app, List.append_eq, cnt_cons, cnt_nil]; omega)⟩ ?_
 rintro jv vs h ⟨i, cq, hi, rfl, hq, hO⟩
 unfold S61_l4
 refine ⟨_, rfl, If.dec (λ hlt => ?_) (λ hlt => ?_)⟩
 ·have hip : i < pls.length := by omega
  refine Rq.go ⟨by omega, hlt⟩ ?_
  obtain ⟨x, hx, hn⟩ := (hsl.rdl (L := cq :: ps :: (pcs.drop i ++ (cf :: pb :: L))) (by simp)).at eSl_ok hO (i := (i : Int)) (by omega) hlt
  refine hn _ λ a _ hc => ?_
  obtain ⟨xa, xl, xc⟩ := x
  refine LdSl.i (hc 0 _ rfl) ?_
  have hx' : hs[i]? = some (xa, xl, xc) := by simpa using hx
  obtain ⟨hrs, hcap⟩ := hpls.rd i _ pls[i] pcs[i] hx' (List.getElem?_eq_getElem hip) (List.getElem?_eq_getElem (by omega))
  have hdrop : pcs.drop i = pcs[i] :: pcs.drop (i + 1) := List.drop_eq_getElem_cons (by omega)
  rw [hdrop] at hO
  have hxl : xl = pls[i].length := (hrs _ (show pcs[i] ∈ (cq :: ps :: (pcs[i] :: pcs.drop (i + 1) ++ (cf :: pb :: L))) from List.mem_cons_of_mem _ (List.mem_cons_of_mem _ (List.mem_append_left _ List.mem_cons_self)))).len hO
  refine walHold hO (pl := pls[i]) (R := ps :: (pcs.drop (i + 1) ++ (cf :: pb :: L))) (by (refine perm_cnt λ a => ?_; simp only [cnt_app, List.append_eq, cnt_cons, cnt_nil]; omega)) hq hrs hcap hxl (hpl _ (List.getElem_mem hip)).2 (by have := frames_take_le pls i; omega) (by rw [List.length_take]; omega) λ h cq' hq' hO => ?_
  refine ⟨rfl, Rng.go (by omega) ⟨⟨i + 1, cq', by omega, rfl, ?_, hO⟩, ?_⟩⟩
  ·rw [List.take_add_one, List.getElem?_eq_getElem hip]; exact hq'
  ·simp only; omega
 ·have hip : i = pls.length := by omega
  subst hip
  rw [List.take_length] at hq
  unfold S61_k1
  refine newK.go hO ?_
  intro r2 h hO
  have fin : ∀ {h : Heap} {o : Obj} {n' : Nat} {c : Heap}, (tl = [] -> n' = n) -> DiskP d (frames pls) n' c -> Own G h (single r2 o :: cq :: ps :: (pcs.drop pls.length ++ (cf :: pb :: c :: R))) -> S61_k2 G K Kp r v h := λ {h o n' c} hn' hd hO => by
   unfold S61_k2
   have hO2 : Own G h ([cq, c] ++ (cf :: R)) := by (refine hO.sp λ a => ?_; simp only [cnt_app, List.append_eq, cnt_cons, cnt_nil]; omega)
   obtain ⟨hj, hO⟩ := Own.closeJ hO2
   exact hK _ _ _ _ _ n' hn' hv ⟨cq, c, hq, hd, hj⟩ hO
  have hO : Own G h (single r2 (.cells #[.pointer none] 134 (0, 0)) :: cq :: ps :: (pcs.drop pls.length ++ (cf :: pb :: c :: R))) := hO.perm (by (refine perm_cnt λ a => ?_; have ht := cnt_perm t.perm a; simp only [cnt_app, List.append_eq, cnt_cons, cnt_nil] at ht ⊢; omega))
  rcases id hv with ⟨rfl, rfl, rfl⟩ | ⟨hne, e, f, he, rfl, rfl⟩
  ·refine errAsNil ⟨_, rfl, If.f rfl ?_⟩
   rw [List.append_nil] at hd
   exact fin (λ _ => rfl) hd hO
  ·refine errAs hG.et hO λ h hO => ⟨_, rfl, If.t rfl ?_⟩
   refine LdP.go hO (by with_unfolding_all rfl) (NN.go ?_)
   have hf : Own G h (FaultC f ((frames pls).length : Nat) e :: c :: single r2 (.cells #[.pointer (some ⟨f, 0, none⟩)] 134 (0, 0)) :: cq :: ps :: (pcs.drop pls.length ++ (pb :: R))) := by (refine hO.sp λ a => ?_; simp only [cnt_app, List.append_eq, cnt_cons, cnt_nil]; omega)
   unfold FaultC at hf
   refine LdI.g hf ?_
   refine diskCut (m := (frames pls).length) (c := c) (R := single r2 (.cells #[.pointer (some ⟨f, 0, none⟩)] 134 (0, 0)) :: cq :: ps :: (pcs.drop pls.length ++ (FaultC f ((frames pls).length : Nat) e :: pb :: R))) (t := ⟨by (refine perm_cnt λ a => ?_; simp only [cnt_app, List.append_eq, cnt_cons, cnt_nil]; omega)⟩) hO hd (by rw [List.length_append]; omega) λ h c' hd' hO => ⟨_, rfl, ?_⟩
   rw [List.take_left] at hd'
   exact fin (o := .cells #[.pointer (some ⟨f, 0, none⟩)] 134 (0, 0)) (λ h0 => absurd h0 hne) hd' (by (refine hO.sp λ a => ?_; simp only [cnt_app, List.append_eq, cnt_cons, cnt_nil]; omega))
theorem walAppend {p d pa : Option Addr} {l k : Nat} {pls : List (List UInt8)} {pl : List UInt8} {n : Nat} {c : Heap} (hG : Gl G) (hO : Own G h L) [t : Take L c R] (hq : LogP p d pls n c) (hr : Rdl R eU8 pa l pl) (h1 : 1 <= pl.length) (h2 : pl.length <= 64) (hsm : (frames pls).length + pl.length + 8 <= 262144)
  (hK : ∀ h' c', LogP p d (pls ++ [pl]) n c' -> Own G h' (c' :: R) -> K .nilIface h') : CallF Tryz.prog G 71 #[.pointer p, .slice pa l k] K Kp h := by
 refine S71_ok ?_
 unfold S71
 have hge := frames_ge (pls := pls)
 obtain ⟨cq, cd, hq, hd, hj⟩ := hq
 have hO : Own G h (c :: R) := hO.perm t.perm
 have hll := (hr.cons c).len hO
 refine walFrame hG hO (hr.cons c) h1 h2 λ h b pf hsf hO => ?_
 refine ⟨_, _, _, _, rfl, Rq.go (.inl rfl) (If.f rfl ?_)⟩
 have hO := hO.open2 hj
 have hq' := hq
 obtain ⟨b2, q, l1, k1, hs, ps, q2, l2, k2, pe, pcs, hp, hs1, hpls, hs2, hj2⟩ := hq'
 have hOo : Own G h (_ :: _ :: _ :: _ :: (pcs ++ (cd :: R))) := hO.open2 hj2
 subst hp
 refine NN.go (LdP.g hOo ?_)
 clear hOo
 refine diskAppend (c := cd) (R := pf :: cq :: R) (t := ⟨by (refine perm_cnt λ a => ?_; simp only [cnt_app, List.append_eq, cnt_cons, cnt_nil]; omega)⟩) hO hd (hsf.rdl (by simp)) (by rw [frame_len]; omega) λ h cd' hd' hO => ?_
 refine ⟨_, rfl, If.f rfl ?_⟩
 refine append_go tU8 tU8.ud (hO.addEmp0) (.refl _) Sli.no ((((hr.cons cq).cons pf).cons cd' |>.cons emp) G h hO.addEmp0) (by omega) λ h p' c' pc' hs3 hO => ?_
 refine ⟨_, _, _, rfl, ?_⟩
 refine walHold hO (cq := cq) (pc := pc') (R := cd' :: pf :: R) (by (refine perm_cnt λ a => ?_; simp only [cnt_app, List.append_eq, cnt_cons, cnt_nil]; omega)) hq hs3.rs hs3.cap (by simp only [Nat.zero_add]; exact hll) h2 (by omega) (by omega) λ h cq' hq' hO => ?_
 refine ⟨rfl, ?_⟩
 obtain ⟨hj, hO⟩ := Own.closeJ (cs := [cq', cd']) hO
 refine hK _ _ ⟨cq', cd', hq', ?_, hj⟩ hO.drop2
 rw [frames_app, frames_one]; exact hd'
end Go.Sl
set_option maxRecDepth 100000
namespace Go.Sl
open Go Go.Proofs
variable {G h : Heap} {L R : List Heap} {K : Value -> Heap -> Prop} {Kp : PK}
theorem walSynced {p d : Option Addr} {pls : List (List UInt8)} {n : Nat} {c : Heap} (hO : Own G h L) [t : Take L c R] (hq : LogP p d pls n c) (hsm : pls.length <= 1000000)
  (hK : ∀ m : Nat, m <= pls.length -> K (.int .i64 m) h) : CallF Tryz.prog G 104 #[.pointer p] K Kp h := by
 refine S104_ok ?_
 unfold S104
 obtain ⟨cq, cd, hq, hd, hj⟩ := hq
 have hO : Own G h (_ :: _ :: _) := (hO.perm t.perm).openJ hj
 obtain ⟨b2, q, l1, k1, hs, ps, q2, l2, k2, pe, pcs, rfl, hs1, hpls, hs2, hj2⟩ := hq
 have hO : Own G h (_ :: _ :: _ :: (pcs ++ (cd :: R))) := hO.openJ hj2
 have e2 := hs2.len
 rw [endsL_len] at e2
 refine LoopS.go (λ vs h' => h' = h /\ ∃ m : Nat, m <= pls.length /\ vs = [.int .i64 m]) (λ vs _ => match vs with | [.int _ m] => (pls.length - m).toNat | _ => 0) ⟨rfl, 0, by omega, rfl⟩ ?_
 rintro jv vs h' ⟨rfl, m, hm, rfl⟩
 unfold S104_l2
 refine ⟨_, rfl, NN.go (LdSl.go hO (by with_unfolding_all rfl) (If.dec (λ hlt => ?_) (λ hlt => ?_)))⟩
 ·refine NN.go (LdSl.go hO (by with_unfolding_all rfl) (Rq.go (by omega) ?_))
  obtain ⟨x, hx, hn⟩ := (hs2.rdl (L := _ :: _ :: pe :: (pcs ++ (cd :: R))) (by simp)).at eI_ok hO (i := (m : Int)) (by omega) hlt
  refine hn _ λ a _ hc => ?_
  refine LdI.i (hc 0 _ rfl) (NN.go (LdP.g hO ?_))
  refine diskSynced (c := cd) (R := single b2 (.cells #[.pointer d, .slice q l1 k1, .slice q2 l2 k2] 171 (0, 0)) :: ps :: pe :: (pcs ++ R)) (t := ⟨by (refine perm_cnt λ a => ?_; simp only [cnt_app, List.append_eq, cnt_cons, cnt_nil]; omega)⟩) hO hd ?_
  refine ⟨_, rfl, hc 0 _ rfl, cell_g hO ?_⟩
  unfold S104_k1
  refine If.dec (λ _ => Rng.go (by omega) ⟨⟨rfl, m + 1, by omega, rfl⟩, by simp only; omega⟩) (λ _ => ?_)
  unfold S104_k2
  exact hK m hm
 ·unfold S104_k1
  refine If.f rfl ?_
  unfold S104_k2
  exact hK m hm
theorem walSync {p d : Option Addr} {pls : List (List UInt8)} {n : Nat} {c : Heap} (hO : Own G h L) [t : Take L c R] (hq : LogP p d pls n c) (hsm : (frames pls).length <= 262144) (hn : n <= (frames pls).length)
  (hK : ∀ h' c' (m : Int), LogP p d pls (frames pls).length c' -> Own G h' (c' :: R) -> K (.int .i64 m) h') : CallF Tryz.prog G 78 #[.pointer p] K Kp h := by
 refine S78_ok ?_
 unfold S78
 have hge := frames_ge (pls := pls)
 refine walSynced hO hq (by omega) λ m hm => ?_
 refine ⟨_, rfl, ?_⟩
 obtain ⟨cq, cd, hq, hd, hj⟩ := hq
 have hO : Own G h (cq :: cd :: R) := (hO.perm t.perm).openJ hj
 have hq' := hq
 obtain ⟨b2, q, l1, k1, hs, ps, q2, l2, k2, pe, pcs, hp, hs1, hpls, hs2, hj2⟩ := hq'
 have hOo : Own G h (_ :: _ :: _ :: (pcs ++ (cd :: R))) := hO.openJ hj2
 subst hp
 refine NN.go (LdP.g hOo ?_)
 clear hOo
 refine diskSync (c := cd) (R := cq :: R) (t := ⟨by (refine perm_cnt λ a => ?_; simp only [cnt_app, List.append_eq, cnt_cons, cnt_nil]; omega)⟩) hO hd hsm hn λ h cd' hd' hO => ?_
 refine ⟨_, rfl, ?_⟩
 have hO : Own G h ([cq, cd'] ++ R) := hO.perm (by (refine perm_cnt λ a => ?_; simp only [cnt_app, List.append_eq, cnt_cons, cnt_nil]; omega))
 obtain ⟨hj, hO⟩ := Own.closeJ hO
 have hl : LogP (some ⟨b2, 0, none⟩) d pls (frames pls).length (join [cq, cd']) := ⟨cq, cd', hq, hd', hj⟩
 refine walSynced hO hl (by omega) λ m2 hm2 => ?_
 exact ⟨_, rfl, Rng.go (by omega) (hK _ _ _ hl hO)⟩
end Go.Sl
set_option maxRecDepth 100000
namespace Go.Sl
open Go Go.Proofs
variable {G h : Heap} {L R : List Heap} {K : Value -> Heap -> Prop} {Kp : PK}
def bnd (f : Int) (v : List Int) (m : Int) : Int × Int :=
 bif f == 1 then (1, 255) else bif f == 2 then (1, 64) else bif f == 3 || f == 8 then (0, 4096) else bif f == 4 then (1, 65) else bif f == 5 then (1, 4096)
 else bif f == 6 then (0, 4096) else bif f == 7 then (1, 4096) else bif f == 9 then (0, 2) else bif f == 10 then (bif v.getD 9 0 == 0 then (0, 0) else (0, 4095))
 else bif f == 11 then (bif v.getD 9 0 == 1 then (32, 126) else (0, 0)) else bif f == 12 then (bif m != 0 then (m, m) else (1, 64)) else (1, 64)
def mayB (f : Int) (v : List Int) (m : Int) : Bool := decide ((bnd f v m).1 <= v.getD f.toNat 0) && decide (v.getD f.toNat 0 <= (bnd f v m).2)
theorem vget {b : Nat} {v : List Int} (hO : Own G h L) (hr : Rdl L eI (some ⟨b, 0, none⟩) 14 v) {i : Nat} (hi : i < 14) : hcell (rd G h) ⟨b, 0 + i, none⟩ = some (.int .i64 (v.getD i 0)) := by
 have hl := hr.len hO
 have hx : v[i]? = some (v.getD i 0) := by rw [List.getD_eq_getElem?_getD, List.getElem?_eq_getElem (by omega)]; rfl
 have := (hr G h hO).cell eI_ok rfl hx (j := 0) (v := .int .i64 (v.getD i 0)) rfl
 simpa [eI] using this
theorem wireBounds {b : Nat} {v : List Int} {f m : Int} (hO : Own G h L) (hr : Rdl L eI (some ⟨b, 0, none⟩) 14 v)
  (hK : K (.tuple #[.int .i64 (bnd f v m).1, .int .i64 (bnd f v m).2]) h) : CallF Tryz.prog G 140 #[.int .i64 f, .pointer (some ⟨b, 0, none⟩), .int .i64 m] K Kp h := by
 refine S140_ok ?_
 have h9 := vget hO hr (i := 9) (by omega)
 unfold S140 S140_k1
 cases e1 : (f == 1) with
 | true => simp only [If, bnd, e1, cond_true, cond_false, Bool.true_or, Bool.or_true] at hK ⊢; exact hK
 | false =>
 have _x1 := e1
 cases e2 : (f == 2) with
 | true => simp only [If, bnd, e1, e2, cond_true, cond_false, Bool.true_or, Bool.or_true] at hK ⊢; exact hK
 | false =>
 have _x2 := e2
 cases e3 : (f == 3) with
 | true => simp only [If, bnd, e1, e2, e3, cond_true, cond_false, Bool.true_or, Bool.or_true] at hK ⊢; exact hK
 | false =>
 have _x3 := e3
 cases e8 : (f == 8) with
 | true => simp only [If, bnd, e1, e2, e3, e8, cond_true, cond_false, Bool.true_or, Bool.or_true] at hK ⊢; exact hK
 | false =>
 have _x8 := e8
 cases e4 : (f == 4) with
 | true => simp only [If, bnd, e1, e2, e3, e8, e4, cond_true, cond_false, Bool.true_or, Bool.or_true] at hK ⊢; exact hK
 | false =>
 have _x4 := e4
 cases e5 : (f == 5) with
 | true => simp only [If, bnd, e1, e2, e3, e8, e4, e5, cond_true, cond_false, Bool.true_or, Bool.or_true] at hK ⊢; exact hK
 | false =>
 have _x5 := e5
 cases e6 : (f == 6) with
 | true => simp only [If, bnd, e1, e2, e3, e8, e4, e5, e6, cond_true, cond_false, Bool.true_or, Bool.or_true] at hK ⊢; exact hK
 | false =>
 have _x6 := e6
 cases e7 : (f == 7) with
 | true => simp only [If, bnd, e1, e2, e3, e8, e4, e5, e6, e7, cond_true, cond_false, Bool.true_or, Bool.or_true] at hK ⊢; exact hK
 | false =>
 have _x7 := e7
 cases e9 : (f == 9) with
 | true => simp only [If, bnd, e1, e2, e3, e8, e4, e5, e6, e7, e9, cond_true, cond_false, Bool.true_or, Bool.or_true] at hK ⊢; exact hK
 | false =>
 have _x9 := e9
 cases e10 : (f == 10) with
 | true =>
  simp only [If, bnd, e1, e2, e3, e8, e4, e5, e6, e7, e9, e10, cond_true, cond_false, Bool.or_false] at hK ⊢
  refine NN.go (Rq.go (by omega) (LdI.i h9 ?_))
  cases e : (v.getD 9 0 == 0) <;> simp only [e, cond_true, cond_false] at hK ⊢ <;> exact hK
 | false =>
 cases e11 : (f == 11) with
 | true =>
  simp only [If, bnd, e1, e2, e3, e8, e4, e5, e6, e7, e9, e10, e11, cond_true, cond_false, Bool.or_false] at hK ⊢
  refine NN.go (Rq.go (by omega) (LdI.i h9 ?_))
  cases e : (v.getD 9 0 == 1) <;> simp only [e, cond_true, cond_false] at hK ⊢ <;> exact hK
 | false =>
 simp only [If, bnd, e1, e2, e3, e8, e4, e5, e6, e7, e9, e10, e11, cond_true, cond_false, Bool.or_false] at hK ⊢
 cases e12 : (f == 12) <;> cases e : (m != 0) <;> simp only [e, e12, cond_true, cond_false] at hK ⊢ <;> exact hK
theorem wireMay {b : Nat} {v : List Int} {f m : Int} (hO : Own G h L) (hr : Rdl L eI (some ⟨b, 0, none⟩) 14 v) (hf : 0 <= f /\ f < 14)
  (hK : K (.bool (mayB f v m)) h) : CallF Tryz.prog G 99 #[.int .i64 f, .pointer (some ⟨b, 0, none⟩), .int .i64 m] K Kp h := by
 refine S99_ok ?_
 unfold S99
 refine wireBounds hO hr ⟨_, _, rfl, NN.go (Rq.go hf (LdI.i (n := v.getD f.toNat 0) ?_ ?_))⟩
 ·have := vget hO hr (i := f.toNat) (by omega)
  rw [add_mk, Nat.mul_one]; exact this
 ·unfold S99_k1
  refine If.dec (λ h1 => ?_) (λ h1 => ?_)
  ·refine NN.go (Rq.go hf (LdI.i (n := v.getD f.toNat 0) ?_ ?_))
   ·have := vget hO hr (i := f.toNat) (by omega)
    rw [add_mk, Nat.mul_one]; exact this
   ·simp only [mayB, ge_iff_le] at hK h1
    rw [decide_eq_true h1, Bool.true_and] at hK; exact hK
  ·simp only [mayB, ge_iff_le] at hK h1
   rw [decide_eq_false h1, Bool.false_and] at hK; exact hK
end Go.Sl
set_option maxRecDepth 100000
namespace Go.Sl
open Go Go.Proofs
variable {G h : Heap} {L R : List Heap} {K : Value -> Heap -> Prop} {Kp : PK}
def RdA {α : Type} (G : Heap) (e : En α) (p : Option Addr) (l : Nat) (xs : List α) : Prop := ∀ L h, Own G h L -> RdS G h e p l xs
theorem RdS.at {α : Type} {e : En α} (ok : e.Ok) {p : Option Addr} {l : Nat} {xs : List α} (hs : RdS G h e p l xs) {i : Int} (h0 : 0 <= i) (h1 : i < (l : Int)) : ∃ x, xs[i.toNat]? = some x /\ ∀ K, (∀ a, p = some a -> (∀ j v, (e.E x)[j]? = some v -> hcell (rd G h) ((a.add (i.toNat * e.m)).add j) = some v) -> K a) -> NN p K := by
 have hl := hs.1
 have hi : i.toNat < xs.length := by omega
 refine ⟨xs[i.toNat], by simp [hi], λ K hK => ?_⟩
 cases p with
 | none => have := hs.2; simp only at this; omega
 | some a =>
  refine hK a rfl λ j v hj => ?_
  have hjm : j < e.m := by rw [<- ok.hm xs[i.toNat]]; exact (List.getElem?_eq_some_iff.1 hj).1
  have := hs.2 (i.toNat * e.m + j) v (by rw [En.F_get ok (i := i.toNat) (x := xs[i.toNat]) (by simp [hi]) hjm]; exact hj)
  have hadd : (a.add (i.toNat * e.m)).add j = a.add (i.toNat * e.m + j) := by
   unfold Addr.add
   by_cases h1 : i.toNat * e.m = 0
   ·simp [h1]
   ·by_cases h2 : j = 0
    ·simp [h1, h2]
    ·simp [h1, h2, Nat.add_assoc]
  rw [hadd]; exact this
def sizeL : List Int := [1, 1, 1, 2, 1, 2, 2, 2, 2, 1, 2, 1, 1, 1]
def shapesL : List (List Int) := [[], [1, 2, 3, 4], [1, 2, 5, 6, 8, 9, 10, 11, 12, 13], [1, 2, 6], [1, 2], [1, 2, 5, 6, 7, 9, 10, 11, 12, 13], [1, 2, 6]]
def itemShapesL : List (List Int) := [[], [1], [8, 9, 10, 11, 12, 13]]
def itemFieldsL : List Int := [1, 8, 9, 10, 11, 12, 13]
structure Gw (G : Heap) : Prop where
 size : ∃ t z, G 4 = some (.cells (eI.F sizeL).toArray t z)
 fields : ∃ t z, G 1 = some (.cells (eI.F itemFieldsL).toArray t z)
 shapes : ∃ hs t z, G 3 = some (.cells (eSl.F hs).toArray t z) /\ hs.length = 7 /\ ∀ (i : Nat) (hd : Option Addr × Nat × Nat) (s : List Int), hs[i]? = some hd -> shapesL[i]? = some s -> RdA G eI hd.1 hd.2.1 s
 items : ∃ hs t z, G 0 = some (.cells (eSl.F hs).toArray t z) /\ hs.length = 3 /\ ∀ (i : Nat) (hd : Option Addr × Nat × Nat) (s : List Int), hs[i]? = some hd -> itemShapesL[i]? = some s -> RdA G eI hd.1 hd.2.1 s
theorem sizeCell (hO : Own G h L) (hw : Gw G) {f : Int} (hf : 0 <= f /\ f < 14) : hcell (rd G h) ((⟨4, 0, none⟩ : Addr).add (f.toNat * 1)) = some (.int .i64 (sizeL.getD f.toNat 0)) := by
 obtain ⟨t, z, hg⟩ := hw.size
 rw [add_mk]
 refine glob_cell hO hg ?_
 have hi2 : f.toNat < 14 := by omega
 simp only [ocell, Option.isSome_none, Bool.false_eq_true, if_false, List.getElem?_toArray]
 have := En.F_get eI_ok (xs := sizeL) (i := f.toNat) (j := 0) (x := sizeL.getD f.toNat 0) (by rw [List.getD_eq_getElem?_getD, List.getElem?_eq_getElem (by exact hi2)]; rfl) (by decide)
 rw [show (0 : Nat) + f.toNat * 1 = f.toNat * eI.m + 0 by simp [eI], this]; rfl
theorem wireNamed {p : Option Addr} {l c : Nat} {shape : List Int} {f : Int} (hO : Own G h L) (hs : RdA G eI p l shape) (hsm : shape.length <= 100)
  (hK : K (.bool (shape.contains f)) h) : CallF Tryz.prog G 98 #[.slice p l c, .int .i64 f] K Kp h := by
 refine S98_ok ?_
 have hl := (hs L h hO).1
 unfold S98
 refine LoopS.go (λ vs h' => h' = h /\ ∃ n : Nat, n <= l /\ vs = [.int .i64 n] /\ (shape.take n).contains f = false) (λ vs _ => match vs with | [.int _ n] => (l - n).toNat | _ => 0) ⟨rfl, 0, by omega, rfl, rfl⟩ ?_
 rintro jv vs h' ⟨rfl, n, hn, rfl, hnot⟩
 unfold S98_l2
 refine ⟨_, rfl, If.dec (λ hlt => ?_) (λ hlt => ?_)⟩
 ·refine Rq.go ⟨by omega, hlt⟩ ?_
  obtain ⟨x, hx, hn'⟩ := (hs L h' hO).at eI_ok (i := (n : Int)) (by omega) hlt
  refine hn' _ λ a _ hc => ?_
  have hx' : shape[n]? = some x := by simpa using hx
  refine LdI.i (hc 0 _ rfl) (If.mk (λ e => ?_) (λ e => ?_))
  ·have hm : f ∈ shape := by
    have : x = f := by simpa using e
    subst this; exact List.mem_of_getElem? hx'
   rw [List.contains_iff_mem.2 hm] at hK; exact hK
  ·refine Rng.go (by omega) ⟨⟨rfl, n + 1, by omega, rfl, ?_⟩, by simp only; omega⟩
   rw [List.take_add_one, hx']
   have hxf : x ≠ f := by simpa using e
   simp only [Option.toList_some, List.contains_eq_mem, List.mem_append, List.mem_singleton, decide_eq_false_iff_not] at hnot ⊢
   rintro (h1 | h1)
   ·exact hnot h1
   ·exact hxf h1.symm
 ·unfold S98_k1
  have : n = l := by omega
  subst this
  rw [hl, List.take_length] at hnot
  rw [hnot] at hK; exact hK
def longS (shape : List Int) : Int := shape.foldl (λ n f => n + sizeL.getD f.toNat 0) 1
theorem wireLong {p : Option Addr} {l c : Nat} {shape : List Int} (hO : Own G h L) (hw : Gw G) (hs : RdA G eI p l shape) (hsm : shape.length <= 100) (hf : ∀ f ∈ shape, 0 <= f /\ f < 14)
  (hK : K (.int .i64 (longS shape)) h) : CallF Tryz.prog G 162 #[.slice p l c] K Kp h := by
 refine S162_ok ?_
 have hl := (hs L h hO).1
 have hb : ∀ f : Int, 0 <= sizeL.getD f.toNat 0 /\ sizeL.getD f.toNat 0 <= 2 := λ f => by
  rw [List.getD_eq_getElem?_getD]
  cases e : sizeL[f.toNat]? with
  | none => simp
  | some x =>
   have := List.mem_of_getElem? e
   simp only [sizeL, List.mem_cons, List.not_mem_nil, or_false] at this
   simp only [Option.getD_some]; omega
 unfold S162
 refine LoopS.go (λ vs h' => h' = h /\ ∃ n : Nat, n <= l /\ vs = [.int .i64 (longS (shape.take n)), .int .i64 n] /\ 0 <= longS (shape.take n) /\ longS (shape.take n) <= 1 + 2 * n) (λ vs _ => match vs with | [_, .int _ n] => (l - n).toNat | _ => 0) ⟨rfl, 0, by omega, rfl, by simp [longS], by simp [longS]⟩ ?_
 rintro jv vs h' ⟨rfl, n, hn, rfl, hb1, hb2⟩
 unfold S162_l3
 refine ⟨_, _, rfl, If.dec (λ hlt => ?_) (λ hlt => ?_)⟩
 ·refine Rq.go ⟨by omega, hlt⟩ ?_
  obtain ⟨x, hx, hn'⟩ := (hs L h' hO).at eI_ok (i := (n : Int)) (by omega) hlt
  refine hn' _ λ a _ hc => ?_
  have hx' : shape[n]? = some x := by simpa using hx
  have hxr := hf x (List.mem_of_getElem? hx')
  have hlo : longS (shape.take (n + 1)) = longS (shape.take n) + sizeL.getD x.toNat 0 := by
   rw [List.take_add_one, hx']; simp [longS, List.foldl_append]
  have := hb x
  refine LdI.i (hc 0 _ rfl) (Rq.go hxr (LdI.i (sizeCell hO hw hxr) (Rng.go (by omega) (Rng.go (by omega) ⟨⟨rfl, n + 1, by omega, by rw [hlo]; rfl, by omega, by omega⟩, by simp only; omega⟩))))
 ·unfold S162_k1
  have : n = l := by omega
  subst this
  rw [hl, List.take_length]
  exact hK
end Go.Sl
set_option maxRecDepth 100000
namespace Go.Sl
open Go Go.Proofs
variable {G h : Heap} {L R : List Heap} {K : Value -> Heap -> Prop} {Kp : PK}
def layF (v : List Int) (f : Int) : List UInt8 :=
 let x := v.getD f.toNat 0
 bif sizeL.getD f.toNat 0 == 2 then [byt (Int.fdiv x (2 ^ 8)), byt x] else [byt x]
def layB (v : List Int) (shape : List Int) : List UInt8 := byt (v.getD 0 0) :: shape.flatMap (layF v)
theorem size12 {f : Int} (h : 0 <= f /\ f < 14) : sizeL.getD f.toNat 0 = 1 ∨ sizeL.getD f.toNat 0 = 2 := by
 have : f = 0 ∨ f = 1 ∨ f = 2 ∨ f = 3 ∨ f = 4 ∨ f = 5 ∨ f = 6 ∨ f = 7 ∨ f = 8 ∨ f = 9 ∨ f = 10 ∨ f = 11 ∨ f = 12 ∨ f = 13 := by omega
 rcases this with h | h | h | h | h | h | h | h | h | h | h | h | h | h <;> subst h <;> decide
theorem wrapU64i {n : Int} (h0 : 0 <= n) (h : n < 65536) : IntKind.u64.wrap n = n := by
 have : IntKind.u64.wrap n = n % 18446744073709551616 := by simp [IntKind.wrap, IntKind.signed, IntKind.bits]
 rw [this]; omega
theorem layF_len (v : List Int) (f : Int) : (layF v f).length <= 2 := by
 unfold layF; cases (sizeL.getD f.toNat 0 == 2) <;> simp
theorem wireLay {b : Nat} {v : List Int} {p : Option Addr} {l c : Nat} {shape : List Int} (hO : Own G h L) (hw : Gw G) (hr : Rdl L eI (some ⟨b, 0, none⟩) 14 v) (hs : RdA G eI p l shape) (hsm : shape.length <= 100) (hf : ∀ f ∈ shape, 0 <= f /\ f < 14) (hv : ∀ f : Nat, 0 <= v.getD f 0 /\ v.getD f 0 < 65536)
  (hK : ∀ h' b' n pc, Sli eU8 (some ⟨b', 0, none⟩) n n (layB v shape) pc -> Own G h' (pc :: L) -> K (.slice (some ⟨b', 0, none⟩) n n) h') : CallF Tryz.prog G 100 #[.pointer (some ⟨b, 0, none⟩), .slice p l c] K Kp h := by
 refine S100_ok ?_
 have hl := (hs L h hO).1
 unfold S100
 refine newK.go hO ?_
 intro r h hO
 refine st1.g hO ?_
 clear hO; intro h hO
 dsimp only [ad, List.set] at hO
 refine st1.g hO ?_
 clear hO; intro h hO
 dsimp only [ad, List.set] at hO
 refine st1.g hO ?_
 clear hO; intro h hO
 dsimp only [ad, List.set] at hO
 refine NN.go (Rq.go (by omega) (LdI.i (vget hO (hr.cons _) (i := 0) (by omega)) ?_))
 rw [wrapU64i (hv 0).1 (hv 0).2]
 refine octPut8 hO (Rdl.nil _ _) (by omega) λ h b1 pc hs1 hO => ?_
 refine ⟨_, _, _, rfl, ?_⟩
 generalize hX : single r (.cells #[.nilFunc, .func (.func 141) #[] #[], .func (.func 142) #[] #[]] _ (0, 0)) = X at *
 refine LoopS.go (λ vs h' => ∃ (n b' k : Nat) (pc : Heap), n <= l /\ vs = [.slice (some ⟨b', 0, none⟩) k k, .int .i64 n] /\ k <= 1 + 2 * n /\ Sli eU8 (some ⟨b', 0, none⟩) k k (layB v (shape.take n)) pc /\ Own G h' (pc :: X :: L)) (λ vs _ => match vs with | [_, .int _ n] => (l - n).toNat | _ => 0) ⟨0, b1, 1, pc, by omega, rfl, by omega, by simpa [layB] using hs1, hO⟩ ?_
 rintro jv vs h ⟨n, b', k, pc, hn, rfl, hk, hsl, hO⟩
 unfold S100_l4
 refine ⟨_, _, _, _, rfl, If.dec (λ hlt => ?_) (λ hlt => ?_)⟩
 ·refine Rq.go ⟨by omega, hlt⟩ ?_
  obtain ⟨x, hx, hn'⟩ := (hs _ h hO).at eI_ok (i := (n : Int)) (by omega) hlt
  refine hn' _ λ a _ hc => ?_
  have hx' : shape[n]? = some x := by simpa using hx
  have hxr := hf x (List.mem_of_getElem? hx')
  have hvx := hv x.toNat
  have hvc := vget hO ((hr.cons X).cons pc) (i := x.toNat) (by omega)
  have hxs := sizeCell hO hw hxr
  have htk : layB v (shape.take (n + 1)) = layB v (shape.take n) ++ layF v x := by
   rw [List.take_add_one, hx']; simp [layB]
  refine LdI.i (hc 0 _ rfl) (Rq.go hxr (LdI.i hxs ?_))
  rcases size12 hxr with e | e <;> rw [e]
  ·refine Rq.go (by omega) ?_
   subst hX
   rw [add_mk]
   refine LdV.go hO (by with_unfolding_all rfl) (NN.go (Rq.go hxr (LdI.i (n := v.getD x.toNat 0) (by rw [add_mk, Nat.mul_one]; exact hvc) ?_)))
   rw [wrapU64i hvx.1 hvx.2]
   show CallF Tryz.prog G 141 #[_, _] _ _ _
   refine octPut8 hO (hsl.rdl (by simp)) (by omega) λ h b2 pc2 hs2 hO => ?_
   refine ⟨_, _, _, rfl, Rng.go (by omega) ⟨⟨n + 1, b2, k + 1, pc2, by omega, rfl, by omega, ?_, hO.drop2⟩, by simp only; omega⟩⟩
   rw [htk]; unfold layF; rw [e]; exact hs2
  ·refine Rq.go (by omega) ?_
   subst hX
   rw [add_mk]
   refine LdV.go hO (by with_unfolding_all rfl) (NN.go (Rq.go hxr (LdI.i (n := v.getD x.toNat 0) (by rw [add_mk, Nat.mul_one]; exact hvc) ?_)))
   rw [wrapU64i hvx.1 hvx.2]
   show CallF Tryz.prog G 142 #[_, _] _ _ _
   refine octPut16 hO (hsl.rdl (by simp)) (by omega) λ h b2 pc2 hs2 hO => ?_
   refine ⟨_, _, _, rfl, Rng.go (by omega) ⟨⟨n + 1, b2, k + 2, pc2, by omega, rfl, by omega, ?_, hO.drop2⟩, by simp only; omega⟩⟩
   rw [htk]; unfold layF; rw [e]; exact hs2
 ·unfold S100_k1
  have : n = l := by omega
  subst this
  rw [hl, List.take_length] at hsl
  exact hK _ _ _ _ hsl hO.drop2
end Go.Sl
set_option maxRecDepth 100000
namespace Go.Sl
open Go Go.Proofs
variable {G h : Heap} {L R : List Heap} {K : Value -> Heap -> Prop} {Kp : PK}
theorem byt_int {x : Int} (h0 : 0 <= x) (h1 : x < 256) : ((byt x).toNat : Int) = x := by
 rw [byt_nat]
 have : IntKind.u8.wrap x = x % 256 := by simp [IntKind.wrap, IntKind.signed, IntKind.bits]
 rw [this]; omega
theorem put16_int {x : Int} (h0 : 0 <= x) (h1 : x < 65536) : (((byt (Int.fdiv x (2 ^ 8))).toNat * 256 + (byt x).toNat : Nat) : Int) = x := by
 obtain ⟨n, rfl⟩ : ∃ n : Nat, x = n := ⟨x.toNat, by omega⟩
 rw [put16_val n (by omega)]
theorem stV {b i : Nat} {o : Obj} {u : Obj -> List Heap} {w : List Int} {x : Int} {t : TypeId} {K : Heap -> Prop} (hO : Own G h L) [f : Find L b o u] (ho : o = .cells (eI.F w).toArray t (0, 0)) (hw : w.length = 14) (hi : i < 14)
  (hk : ∀ h', Own G h' (u (.cells (eI.F (w.set i x)).toArray t (0, 0))) -> K h') : st1 ⟨b, i, none⟩ (.int .i64 x) K h := by
 have hx : w[i]? = some (w[i]'(by omega)) := List.getElem?_eq_getElem (by omega)
 have hs := En.F_set eI_ok (y := x) (v := .int .i64 x) (j := 0) hx (by decide) rfl
 refine ⟨rfl, o, hO.find f, ?_, ?_, ?_⟩
 ·refine ⟨.int .i64 (w[i]'(by omega)), ?_⟩
  have := En.F_get eI_ok hx (j := 0) (by decide)
  rw [ho]
  simp only [ocell, Option.isSome_none, Bool.false_eq_true, if_false, List.getElem?_toArray]
  rw [show i * eI.m + 0 = i by simp [eI]] at this
  rw [this]; rfl
 ·rw [ho]; simp [ofrozen]
 ·have e : oset o i (.int .i64 x) = .cells (eI.F (w.set i x)).toArray t (0, 0) := by
   rw [ho, <- hs]
   simp only [oset, List.setIfInBounds_toArray]
   rw [show i * eI.m + 0 = i by simp [eI]]
  show K (hupd h b (oset o i (.int .i64 x)))
  rw [e]; exact hk _ (hO.set f _)
def pv (v shape : List Int) (k : Nat) : List Int := (shape.take k).foldl (λ w f => w.set f.toNat (v.getD f.toNat 0)) ((List.replicate 14 0).set 0 (v.getD 0 0))
theorem foldset_len (v : List Int) : ∀ (s w : List Int), (s.foldl (λ w f => w.set f.toNat (v.getD f.toNat 0)) w).length = w.length := by
 intro s
 induction s with
 | nil => intro w; rfl
 | cons f s ih => intro w; rw [List.foldl_cons, ih, List.length_set]
theorem pv_len (v shape : List Int) (k : Nat) : (pv v shape k).length = 14 := by
 unfold pv; rw [foldset_len, List.length_set, List.length_replicate]
theorem pv_succ {v shape : List Int} {k : Nat} {x : Int} (h : shape[k]? = some x) : pv v shape (k + 1) = (pv v shape k).set x.toNat (v.getD x.toNat 0) := by
 unfold pv; rw [List.take_add_one, h, List.foldl_append]; rfl
theorem list14 {w : List Int} (h : w.length = 14) : ∃ a0 a1 a2 a3 a4 a5 a6 a7 a8 a9 a10 a11 a12 a13, w = [a0, a1, a2, a3, a4, a5, a6, a7, a8, a9, a10, a11, a12, a13] := by
 match w, h with
 | [a0, a1, a2, a3, a4, a5, a6, a7, a8, a9, a10, a11, a12, a13], _ => exact ⟨_, _, _, _, _, _, _, _, _, _, _, _, _, _, rfl⟩
def vagg (w : List Int) : Value := .agg (w.map λ x => Value.int .i64 x).toArray
theorem pick_k1 {x n20 m : Int} {r9 r8 n : Nat} {w : List Int} {Kn : List Value -> Heap -> Prop} (hO : Own G h L) (hr : Rdl L eI (some ⟨r9, 0, none⟩) 14 w) (hx : 0 <= x /\ x < 14) (hm : mayB x w m = true) (hn : n <= 1000) (hK : Kn [.int .i64 ((n : Int) + 1)] h) :
  S163_k1 G K Kp x r9 n20 r8 n Kn m h := by
 unfold S163_k1
 refine wireMay hO hr hx ⟨_, rfl, If.f (by rw [hm]; rfl) (Rng.go (by omega) hK)⟩
theorem pick_fin {G h A B C : Heap} {x n20 vx : Int} {r9 r8 n : Nat} {w : List Int} {own : Bool} {Kn : List Value -> Heap -> Prop} (hO : Own G h (A :: B :: C :: single r9 (.cells (eI.F w).toArray 202 (0, 0)) :: L)) (hw : w.length = 14) (hx : 0 <= x /\ x < 14)
  (hm : mayB x (w.set x.toNat vx) (bif own then (w.set x.toNat vx).getD 2 0 else 0) = true) (hn : n <= 1000) (hK : ∀ h', Own G h' (A :: B :: C :: single r9 (.cells (eI.F (w.set x.toNat vx)).toArray 202 (0, 0)) :: L) -> Kn [.int .i64 ((n : Int) + 1)] h') :
  st1 ((⟨r9, 0, none⟩ : Addr).add (x.toNat * 1)) (.int .i64 vx) (λ h => If own (Rq ((0 : Int) <= 2 /\ 2 < ((14 : Nat) : Int)) (LdI G h .i64 (⟨r9, 2, none⟩ : Addr) λ n_26 => (S163_k1 G K Kp x r9 n20 r8 n Kn n_26 h))) (S163_k1 G K Kp x r9 n20 r8 n Kn 0 h)) h := by
 rw [add_mk, Nat.zero_add, Nat.mul_one]
 refine stV hO rfl hw (by omega) λ h hO => ?_
 have hr : Rdl (A :: B :: C :: single r9 (.cells (eI.F (w.set x.toNat vx)).toArray 202 (0, 0)) :: L) eI (some ⟨r9, 0, none⟩) 14 (w.set x.toNat vx) := Rdl.lit rfl (by rw [List.length_set, hw])
 refine If.mk (λ e => ?_) (λ e => ?_)
 ·rw [e] at hm
  exact Rq.go (by omega) (LdI.i (vget hO hr (i := 2) (by omega)) (pick_k1 hO hr hx hm hn (hK _ hO)))
 ·rw [e] at hm
  exact pick_k1 hO hr hx hm hn (hK _ hO)
theorem wirePick {pb : Option Addr} {l c : Nat} {v : List Int} {p : Option Addr} {ls cs : Nat} {shape : List Int} {own : Bool} (hO : Own G h L) (hw : Gw G) (hr : Rdl L eU8 pb l (layB v shape)) (hs : RdA G eI p ls shape) (hsm : shape.length <= 100) (hf : ∀ f ∈ shape, 0 <= f /\ f < 14) (hlsm : l <= 1000)
  (hv : ∀ f : Nat, 0 <= v.getD f 0 /\ v.getD f 0 < 65536) (hv1 : ∀ f : Nat, sizeL.getD f 0 = 1 -> v.getD f 0 < 256)
  (hm : ∀ k x, shape[k]? = some x -> mayB x (pv v shape (k + 1)) (bif own then (pv v shape (k + 1)).getD 2 0 else 0) = true)
  (hK : ∀ h', Own G h' L -> K (.tuple #[vagg (pv v shape shape.length), .nilIface]) h') : CallF Tryz.prog G 163 #[.slice pb l c, .slice p ls cs, .bool own] K Kp h := by
 refine S163_ok ?_
 have hl := (hs L h hO).1
 unfold S163
 refine newK.go hO ?_
 intro r8 h hO
 refine newK.go hO ?_
 intro r9 h hO
 refine octNewReader hO ((hr.cons _).cons _) (by omega) λ h rb rq pc hsl hO => ?_
 refine ⟨_, rfl, newK.go hO ?_⟩
 intro r12 h hO
 refine st1.g hO ?_
 clear hO; intro h hO
 dsimp only [ad, List.set] at hO
 refine st1.g hO ?_
 clear hO; intro h hO
 dsimp only [ad, List.set] at hO
 refine st1.g hO ?_
 clear hO; intro h hO
 dsimp only [ad, List.set] at hO
 generalize hX : single r12 (.cells #[.nilFunc, .func (.func 182) #[.pointer (some ⟨rb, 0, none⟩)] #[], .func (.func 155) #[.pointer (some ⟨rb, 0, none⟩)] #[]] _ (0, 0)) = X at *
 have hO : Own G h (rdr rb (some ⟨rq, 0, none⟩) l l 0 (0, 0) :: X :: pc :: single r9 (.cells (eI.F (List.replicate 14 0)).toArray 202 (0, 0)) :: single r8 (.cells (eI.F (List.replicate 14 0)).toArray 202 (0, 0)) :: L) := hO.perm (List.Perm.swap _ _ _)
 have h0 : (layB v shape)[0]? = some (byt (v.getD 0 0)) := rfl
 refine octU8 hO (hsl.rdl (by simp)) (by omega) (by omega) h0 λ h hO => ?_
 have hv0 := hv 0
 have hv01 := hv1 0 (by decide)
 rw [byt_int hv0.1 hv01]
 refine ⟨_, rfl, Rq.go (by omega) (stV hO rfl (by simp) (by omega) ?_)⟩
 clear hO; intro h hO
 refine LoopS.go (λ vs h' => ∃ (n : Nat), n <= ls /\ vs = [.int .i64 n] /\ Own G h' (rdr rb (some ⟨rq, 0, none⟩) l l (layB v (shape.take n)).length (0, 0) :: X :: pc :: single r9 (.cells (eI.F (pv v shape n)).toArray 202 (0, 0)) :: single r8 (.cells (eI.F (List.replicate 14 0)).toArray 202 (0, 0)) :: L)) (λ vs _ => match vs with | [.int _ n] => (ls - n).toNat | _ => 0) ⟨0, by omega, rfl, hO⟩ ?_
 rintro jv vs h ⟨n, hn, rfl, hO⟩
 unfold S163_l6
 refine ⟨_, rfl, If.dec (λ hlt => ?_) (λ hlt => ?_)⟩
 ·refine Rq.go ⟨by omega, hlt⟩ ?_
  obtain ⟨x, hx, hn'⟩ := (hs _ h hO).at eI_ok (i := (n : Int)) (by omega) hlt
  refine hn' _ λ a _ hc => ?_
  have hx' : shape[n]? = some x := by simpa using hx
  have hxr := hf x (List.mem_of_getElem? hx')
  have hvx := hv x.toNat
  have hxs := sizeCell hO hw hxr
  have htk : layB v (shape.take (n + 1)) = layB v (shape.take n) ++ layF v x := by
   rw [List.take_add_one, hx']; simp [layB]
  have hall : layB v shape = layB v (shape.take n) ++ (layF v x ++ (shape.drop (n + 1)).flatMap (layF v)) := by
   have hnl : n < shape.length := (List.getElem?_eq_some_iff.1 hx').1
   have : shape = shape.take n ++ (x :: shape.drop (n + 1)) := by
    have h1 : shape.drop n = x :: shape.drop (n + 1) := by
     rw [List.drop_eq_getElem_cons hnl]; congr 1
     rw [List.getElem?_eq_getElem hnl] at hx'; simpa using hx'
    rw [<- h1, List.take_append_drop]
   conv => lhs; rw [this]
   simp [layB]
  refine LdI.i (hc 0 _ rfl) ?_
  refine octAt hO ⟨_, rfl, Rq.go hxr (LdI.i hxs ?_)⟩
  have hlen8 : (layB v shape).length = l := by
   have := (hr.len (hO.mem (M := L) ?_))
   ·exact this.symm
   ·exact List.Sublist.cons _ (List.Sublist.cons _ (List.Sublist.cons _ (List.Sublist.cons _ (List.Sublist.cons _ (List.Sublist.refl _)))))
  have hmm := hm n x hx'
  rw [pv_succ hx'] at hmm
  have hKn : ∀ (at_ : Nat), at_ = (layB v (shape.take (n + 1))).length -> ∀ h', Own G h' (rdr rb (some ⟨rq, 0, none⟩) l l at_ (0, 0) :: X :: pc :: single r9 (.cells (eI.F ((pv v shape n).set x.toNat (v.getD x.toNat 0))).toArray 202 (0, 0)) :: single r8 (.cells (eI.F (List.replicate 14 0)).toArray 202 (0, 0)) :: L) ->
    (∃ (m : Nat), m <= ls /\ [Value.int .i64 ((n : Int) + 1)] = [.int .i64 m] /\ Own G h' (rdr rb (some ⟨rq, 0, none⟩) l l (layB v (shape.take m)).length (0, 0) :: X :: pc :: single r9 (.cells (eI.F (pv v shape m)).toArray 202 (0, 0)) :: single r8 (.cells (eI.F (List.replicate 14 0)).toArray 202 (0, 0)) :: L)) := by
   intro at_ hat h' hO
   refine ⟨n + 1, by omega, rfl, ?_⟩
   rw [<- hat, pv_succ hx']; exact hO
  rcases size12 hxr with e | e <;> rw [e]
  ·have hlf : layF v x = [byt (v.getD x.toNat 0)] := by unfold layF; rw [e]; rfl
   refine Rq.go (by omega) ?_
   rw [add_mk]
   subst hX
   refine LdV.g hO ?_
   show CallF Tryz.prog G 182 #[_] _ _ _
   refine octU8 (x := byt (v.getD x.toNat 0)) hO (hsl.rdl (by simp)) (by omega) (by omega) (by rw [hall, hlf, List.getElem?_append_right (by omega), Nat.sub_self]; rfl) λ h hO => ?_
   rw [byt_int hvx.1 (hv1 _ e)]
   refine ⟨_, rfl, Rq.go hxr (pick_fin hO (pv_len _ _ _) hxr hmm (by omega) λ h' hO => ⟨hKn _ (by rw [htk, hlf]; simp) h' hO, by simp only; omega⟩)⟩
  ·have hlf : layF v x = [byt (Int.fdiv (v.getD x.toNat 0) (2 ^ 8)), byt (v.getD x.toNat 0)] := by unfold layF; rw [e]; rfl
   refine Rq.go (by omega) ?_
   rw [add_mk]
   subst hX
   refine LdV.g hO ?_
   show CallF Tryz.prog G 155 #[_] _ _ _
   refine octU16 (x := byt (Int.fdiv (v.getD x.toNat 0) (2 ^ 8))) (y := byt (v.getD x.toNat 0)) hO (hsl.rdl (by simp)) (by omega) (by omega) (by rw [hall, hlf, List.getElem?_append_right (by omega), Nat.sub_self]; rfl) (by rw [hall, hlf, List.getElem?_append_right (by omega), Nat.add_sub_cancel_left]; rfl) λ h hO => ?_
   rw [put16_int hvx.1 hvx.2]
   refine ⟨_, rfl, Rq.go hxr (pick_fin hO (pv_len _ _ _) hxr hmm (by omega) λ h' hO => ⟨hKn _ (by rw [htk, hlf]; simp) h' hO, by simp only; omega⟩)⟩
 ·have hnl : n = shape.length := by omega
  subst hnl
  unfold S163_k2
  obtain ⟨a0, a1, a2, a3, a4, a5, a6, a7, a8, a9, a10, a11, a12, a13, hpv⟩ := list14 (pv_len v shape shape.length)
  rw [hpv] at hO hK
  have hO : Own G h (rdr rb (some ⟨rq, 0, none⟩) l l (layB v (shape.take shape.length)).length (0, 0) :: X :: pc :: single r9 (.cells #[.int .i64 a0, .int .i64 a1, .int .i64 a2, .int .i64 a3, .int .i64 a4, .int .i64 a5, .int .i64 a6, .int .i64 a7, .int .i64 a8, .int .i64 a9, .int .i64 a10, .int .i64 a11, .int .i64 a12, .int .i64 a13] 202 (0, 0)) :: single r8 (.cells #[.int .i64 0, .int .i64 0, .int .i64 0, .int .i64 0, .int .i64 0, .int .i64 0, .int .i64 0, .int .i64 0, .int .i64 0, .int .i64 0, .int .i64 0, .int .i64 0, .int .i64 0, .int .i64 0] 202 (0, 0)) :: L) := hO
  iterate 14 (refine LdI.g hO ?_)
  iterate 14 (refine st1.g hO ?_; clear hO; intro h hO; dsimp only [List.set] at hO)
  iterate 14 (refine LdI.g hO ?_)
  refine hK h (hO.mem ?_)
  exact List.Sublist.cons _ (List.Sublist.cons _ (List.Sublist.cons _ (List.Sublist.cons _ (List.Sublist.cons _ (List.Sublist.refl _)))))
end Go.Sl
set_option maxRecDepth 100000
namespace Go.Sl
open Go Go.Proofs
variable {G h : Heap} {L R : List Heap} {K : Value -> Heap -> Prop} {Kp : PK}
theorem wireFlat {m0 m1 m2 m3 m4 m5 m6 m7 m8 m9 m10 m11 m12 m13 : Int} (hO : Own G h L) (hc : 0 <= m11 /\ m11 < 256)
  (hK : ∀ h', Own G h' L -> K (vagg [m0, m1, m2, m3, m4, m5, m6, m7, m8, m9, m10, m11, m12, m13]) h') :
  CallF Tryz.prog G 97 #[.agg #[.int .i64 m0, .int .i64 m1, .int .i64 m2, .int .i64 m3, .int .i64 m4, .int .i64 m5, .int .i64 m6, .int .i64 m7, .int .i64 m8, .int .i64 m9, .int .i64 m10, .int .u8 m11, .int .i64 m12, .int .i64 m13]] K Kp h := by
 refine S97_ok ?_
 unfold S97
 refine newK.go hO ?_
 clear hO; intro r1 h hO
 refine newK.go hO ?_
 clear hO; intro r2 h hO
 have e : IntKind.i64.wrap m11 = m11 := wrap_i64 (by omega) (by omega)
 iterate 14 (refine LdI.g hO ?_)
 rw [e]
 (repeat (first | refine NN.go ?_ | refine LdI.g hO ?_ | refine cell_g hO ?_ | refine Rq.go (by omega) ?_ | (refine st1.g hO ?_; clear hO; intro h hO; dsimp only [ad, List.set] at hO)))
 exact hK _ hO.drop1.drop1
structure Op where
 kind : Int
 pos : Int
 ch : Int
 client : Int
 seq : Int
def opV (o : Op) : Value := .agg #[.int .i64 o.kind, .int .i64 o.pos, .int .u8 o.ch, .int .i64 o.client, .int .i64 o.seq]
theorem wireOp {b : Nat} {v : List Int} (hO : Own G h L) (hr : Rdl L eI (some ⟨b, 0, none⟩) 14 v) (hc : 0 <= v.getD 11 0 /\ v.getD 11 0 < 256)
  (hK : ∀ h', Own G h' L -> K (opV ⟨v.getD 9 0, v.getD 10 0, v.getD 11 0, v.getD 12 0, v.getD 13 0⟩) h') : CallF Tryz.prog G 164 #[.pointer (some ⟨b, 0, none⟩)] K Kp h := by
 refine S164_ok ?_
 unfold S164
 refine newK.go hO ?_
 clear hO; intro r1 h hO
 have hg : ∀ i : Nat, i < 14 -> hcell (rd G h) ⟨b, 0 + i, none⟩ = some (.int .i64 (v.getD i 0)) := λ i hi => vget hO (hr.cons _) hi
 have e : IntKind.u8.wrap (v.getD 11 0) = v.getD 11 0 := by
  have : IntKind.u8.wrap (v.getD 11 0) = v.getD 11 0 % 256 := by simp [IntKind.wrap, IntKind.signed, IntKind.bits]
  rw [this]; omega
 refine NN.go (Rq.go (by omega) (LdI.i (hg 9 (by omega)) (NN.go (Rq.go (by omega) (LdI.i (hg 10 (by omega)) (NN.go (Rq.go (by omega) (LdI.i (hg 11 (by omega)) (NN.go (Rq.go (by omega) (LdI.i (hg 12 (by omega)) (NN.go (Rq.go (by omega) (LdI.i (hg 13 (by omega)) ?_))))))))))))))
 rw [e]
 (repeat (first | refine NN.go ?_ | refine LdI.g hO ?_ | refine cell_g hO ?_ | refine Rq.go (by omega) ?_ | (refine st1.g hO ?_; clear hO; intro h hO; dsimp only [ad, List.set] at hO)))
 exact hK _ hO.drop1
end Go.Sl
