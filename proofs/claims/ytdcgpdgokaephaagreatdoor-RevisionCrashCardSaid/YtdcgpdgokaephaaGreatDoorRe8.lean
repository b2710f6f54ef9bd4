/- RevisionCrash: of any first bytes of a run's disk, and of these with one byte changed, the past is a beginning of the past, as long as whole unspoilt items reach, with an error where something was cut; of every run; the seven listed package variables hold what the text lays. Part 8 of 11. -/
import Derived.LaidMore
import Derived.LaidSub
import Derived.Lib.LaidU8
import Derived.Carry
import Derived.ChangeAlike
import Derived.Test.YtdcgpdgokaephaaGreatDoorRe7
set_option linter.unusedVariables false
set_option linter.unusedSimpArgs false
set_option linter.unusedSectionVars false
set_option maxRecDepth 100000
namespace Go.Sl
open Go Go.Proofs
variable {G h : Heap} {L R : List Heap} {K : Value → Heap → Prop} {Kp : PK}
def Ru.downed (s : Ru) (i : Nat) (o : Op) : Ru := { s with down := upd s.down i (s.down i + 1), cl := upd s.cl i ((s.cl i).recvd o) }
/-- What is asked where a client takes in a record. -/
structure DownOk (s : Ru) (i : Nat) (o : Op) : Prop where
 ho : s.bk.done[s.down i]? = some o
 acc : (s.cl i).Acc o
 hx : (s.cl i).held = none
 cum : (s.cl i).cum = s.down i
 base : (s.cl i).base = 0
 ep : (s.cl i).epoch = 1
 id : (s.cl i).id = i + 1
 hav : 0 ≤ (s.cl i).have_ ∧ (s.cl i).have_ ≤ 100000
 sm : s.down i < 4000
 dl : s.bk.done.length ≤ 4000
theorem runDown {p : Option Addr} {s : Ru} {c : Heap} {i : Nat} (hT : Gt G) (hg : Gl G) (hw : Gw G) (hO : Own G h L) [t : Take L c R] (hq : RunP p s c) (hi : i < 3) (hdo : s.down i < s.bk.done.length → ∃ o, DownOk s i o)
  (hK0 : ∀ h', Own G h' L → K (.bool true) h')
  (hK1 : ∀ h' c' o, s.down i < s.bk.done.length → DownOk s i o → RunP p (s.downed i o) c' → Own G h' (c' :: R) → K (.bool true) h') :
  CallF Tryz.prog G 53 #[.pointer p, .int .i64 i] K Kp h := by
 refine S53_ok ?_
 unfold S53
 obtain ⟨d, b, r, C, M, dc, dn, en, rv, hs, dcs, cc, cm, cb, c1, c2, c3, c4, rfl, hcl, hb, hm, hd1, hd2, hdn, hen, hrv, hj⟩ := hq
 have back : ∀ {h : Heap} {X : List Heap}, Own G h (X ++ (single r (ruB C d b M (fun i => s.has i) (fun i => s.down i) dc dn en rv s.boots) :: cc i :: cm i :: cb :: c1 :: c2 :: c3 :: c4 :: (oth i cc ++ (oth i cm ++ (dcs ++ R))))) → Own G h L := fun {h X} hO => by
  refine Own.reclose hj t.perm (hO.sp fun a => ?_)
  have e1 := oth_cnt hi cc a
  have e2 := oth_cnt hi cm a
  simp only [cnt_app, List.append_eq, cnt_cons, cnt_nil, List.cons_append]; omega
 (have hO := (hO.perm t.perm).openJ hj; simp only [List.cons_append, List.nil_append] at hO)
 replace hO := run_split hi hO
 obtain ⟨dn1, dn2, dn3⟩ := dn
 simp only at hdn
 have e3 := hdn.len
 refine NN.go ?_
 refine Rq.go (by omega) ?_
 rw [add_mk, Int.toNat_natCast]
 refine LdI.go hO (ru_D hi) ?_
 refine NN.go ?_
 refine LdSl.g hO ?_
 dsimp only
 refine If.dec (fun e => hK0 _ (back (X := []) hO)) (fun e => ?_)
 have hlt : s.down i < s.bk.done.length := by omega
 obtain ⟨o, ok⟩ := hdo hlt
 have sm := ok.sm
 have hdl := ok.dl
 refine NN.go ?_
 refine Rq.go (by omega) ?_
 rw [add_mk]
 refine LdI.go hO (ru_D hi) ?_
 refine Rng.go (by omega) ?_
 refine NN.go ?_
 refine Rq.go (by omega) ?_
 rw [add_mk]
 refine st1.go hO (ru_sD hi ((s.down i : Int) + 1)) ?_
 clear hO; intro h hO
 have hH : upd (fun i => ((s.down i : Nat) : Int)) i ((s.down i : Int) + 1) = fun j => (((upd s.down i (s.down i + 1)) j : Nat) : Int) := by
  funext j
  by_cases hji : j = i
  ·subst hji; rw [upd_self, upd_self]; rfl
  ·rw [upd_ne hji, upd_ne hji]
 rw [hH] at hO
 refine NN.go ?_
 refine Rq.go (by omega) ?_
 rw [add_mk]
 refine LdP.go hO (ru_C hi) ?_
 refine Rng.go (by omega) ?_
 refine NN.go ?_
 refine LdSl.g hO ?_
 dsimp only
 refine Rng.go (by omega) ?_
 refine Rq.go (by omega) ?_
 obtain ⟨y, hy, hn'⟩ := (hdn.rdO hO (by simp)).at eOp_ok hO (i := (s.down i : Int) + 1 - 1) (by omega) (by omega)
 rw [show ((s.down i : Int) + 1 - 1).toNat = s.down i by omega, ok.ho] at hy
 cases hy
 refine hn' _ fun a ha hc => ?_
 refine LdI.i (hc 0 _ rfl) (LdI.i (hc 1 _ rfl) (LdI.i (hc 2 _ rfl) (LdI.i (hc 3 _ rfl) (LdI.i (hc 4 _ rfl) ?_))))
 have hcum := ok.cum
 have hba := ok.base
 refine givenRec (x := s.cl i) (o := o) (ep := 1) (id := (i : Int) + 1) (num := (s.down i : Int) + 1) (rev := (s.down i : Int) + 1) hT hg hw hO (hcl i hi) ok.hx ok.acc (by omega) (by omega) ok.hav ok.ep.symm ok.id.symm (by omega) (by omega) ⟨by decide, by omega, .inr (.inr ⟨rfl, by omega, by omega, by omega, by omega, ok.acc.fit⟩)⟩ fun h ci hci hO => ⟨_, rfl, ?_⟩
 have hO2 : Own G h ((single r (ruB C d b M (fun i => s.has i) (fun j => (((upd s.down i (s.down i + 1)) j : Nat) : Int)) dc (dn1, dn2, dn3) en rv s.boots) :: cb :: upd cc i ci 0 :: upd cc i ci 1 :: upd cc i ci 2 :: cm 0 :: cm 1 :: cm 2 :: c1 :: c2 :: c3 :: c4 :: dcs) ++ R) := hO.sp fun a => by
  have e1 := oth_upd hi cc ci a
  have e2 := oth_cnt hi cm a
  simp only [cnt_app, List.append_eq, cnt_cons, cnt_nil, List.cons_append]; omega
 obtain ⟨cj, hj, hO⟩ := Own.closeE hO2
 refine hK1 _ _ o hlt ok ⟨d, b, r, C, M, dc, (dn1, dn2, dn3), en, rv, hs, dcs, upd cc i ci, cm, cb, c1, c2, c3, c4, rfl, ?_, hb, hm, hd1, hd2, hdn, hen, hrv, hj⟩ hO
 intro j hj
 show ClientP (C j) (upd s.cl i ((s.cl i).recvd o) j) _
 by_cases hji : j = i
 ·subst hji; rw [upd_self, upd_self]; exact hci
 ·rw [upd_ne hji, upd_ne hji]; exact hcl j hj
def Ru.booted (s : Ru) : Ru := { s with boots := s.boots + 1, bk := s.bk.started, its := s.its ++ [.boot (s.bk.epoch + 1)] }
structure BootOk (s : Ru) : Prop where
 ep : 0 ≤ s.bk.epoch ∧ s.bk.epoch < 255
 el : s.bk.edited.length ≤ 4000
 fr : (frames (s.its.map It.bytes)).length ≤ 200000
 il : s.its.length ≤ 4000
 dl : s.bk.done.length ≤ 4000
 cn : s.its.countP isEdit = s.bk.done.length
structure SyncOk (s : Ru) : Prop where
 pl : s.its.length ≤ 4000
 fr : (frames (s.its.map It.bytes)).length ≤ 200000
 sn : s.syn ≤ (frames (s.its.map It.bytes)).length
 el : s.bk.edited.length = s.its.length
 ev : ∀ v ∈ s.bk.edited, 0 ≤ v ∧ v ≤ 100000
/-- What a run's state must bear so that each step of a play goes well. -/
structure Good (s : Ru) : Prop where
 m64 : ∀ i, i < 3 → (s.mine i).length ≤ 64
 can : ∀ i, i < 3 → (s.mine i).length < 64 → (s.cl i).Can
 tx : ∀ i, i < 3 → (s.cl i).text.length ≤ 3999
 up : ∀ i, i < 3 → s.has i < (s.mine i).length → ∃ e hd, UpOk s i e hd
 down : ∀ i, i < 3 → s.down i < s.bk.done.length → ∃ o, DownOk s i o
 boot : s.boots < 100 → BootOk s
 sync : SyncOk s
end Go.Sl
set_option maxRecDepth 100000
namespace Go.Sl
open Go Go.Proofs
variable {G h : Heap} {L R : List Heap} {K : Value → Heap → Prop} {Kp : PK}
/-- One step of a run. -/
inductive Stp3 (s : Ru) : Ru → Prop
 | none : Stp3 s s
 | edit (i : Nat) (o : Op) : i < 3 → (s.mine i).length < 64 → EdO (s.cl i).text.length o → Stp3 s (s.edited i o)
 | up (i : Nat) (e : Ed) (hd : Hd) : i < 3 → s.has i < (s.mine i).length → UpOk s i e hd → Stp3 s (s.upped i e hd)
 | down (i : Nat) (o : Op) : i < 3 → s.down i < s.bk.done.length → DownOk s i o → Stp3 s (s.downed i o)
 | boot : s.boots < 100 → Stp3 s s.booted
 | sync : Stp3 s { s with syn := (frames (s.its.map It.bytes)).length }
theorem runPlay {p : Option Addr} {s : Ru} {c : Heap} {k1 k2 k3 k4 : Int} (hT : Gt G) (hg : Gl G) (hw : Gw G) (hO : Own G h L) [t : Take L c R] (hq : RunP p s c) (hgood : Good s)
  (hK : ∀ h' c' s', Stp3 s s' → RunP p s' c' → Own G h' (c' :: R) → K (.bool true) h') :
  CallF Tryz.prog G 31 #[.pointer p, .agg #[.int .i64 k1, .int .i64 k2, .int .i64 k3, .int .i64 k4]] K Kp h := by
 refine S31_ok ?_
 unfold S31
 refine newK.go hO ?_
 clear hO; intro r6 h hO
 refine LdI.g hO ?_
 refine lawRest (by omega) fun i hi => ⟨_, rfl, ?_⟩
 obtain ⟨i, rfl⟩ : ∃ j : Nat, i = (j : Int) := ⟨i.toNat, by omega⟩
 have hi3 : i < 3 := by omega
 refine LdI.g hO ?_
 have same : ∀ {h : Heap}, Own G h (single r6 (.cells #[.int .i64 k1, .int .i64 k2, .int .i64 k3, .int .i64 k4] 90 (0, 0)) :: L) → K (.bool true) h := fun {h} hO => hK _ _ _ .none hq (hO.drop1.perm t.perm)
 have main : ∀ b, S31_k1 G K Kp r6 p i k1 b h := fun b => by
  unfold S31_k1
  refine If.mk (fun _ => ?_) (fun _ => ?_)
  ·(repeat (with_reducible first | refine NN.go ?_ | refine LdI.g hO ?_ | refine LdSl.g hO ?_ | refine LdP.g hO ?_ | refine LdM.g hO ?_ | refine LdB.g hO ?_ | refine cell_g hO ?_ | refine Rq.go (by omega) ?_ | refine Rng.go (by omega) ?_ | (refine st1.g hO ?_; clear hO; intro h hO; dsimp only [ad, List.set] at hO)))
   refine runEdit (L := single r6 (.cells #[.int .i64 k1, .int .i64 k2, .int .i64 k3, .int .i64 k4] 90 (0, 0)) :: L) hO hq hi3 (hgood.m64 i hi3) (hgood.can i hi3) (by have := hgood.tx i hi3; omega) (fun h hO => ⟨_, rfl, same hO⟩) fun h c' o h1 h2 hq hO => ⟨_, rfl, ?_⟩
   exact hK _ _ _ (.edit i o hi3 h1 h2) hq (by (refine hO.sp fun a => ?_; simp only [cnt_app, List.append_eq, cnt_cons, cnt_nil]; omega))
  refine If.mk (fun _ => ?_) (fun _ => ?_)
  ·refine runUp (L := single r6 (.cells #[.int .i64 k1, .int .i64 k2, .int .i64 k3, .int .i64 k4] 90 (0, 0)) :: L) hT hg hw hO hq hi3 (hgood.m64 i hi3) (hgood.up i hi3) (fun _ h hO => ⟨_, rfl, same hO⟩) fun h c' e hd h1 h2 hq hO => ⟨_, rfl, ?_⟩
   exact hK _ _ _ (.up i e hd hi3 h1 h2) hq (by (refine hO.sp fun a => ?_; simp only [cnt_app, List.append_eq, cnt_cons, cnt_nil]; omega))
  refine If.mk (fun _ => ?_) (fun _ => ?_)
  ·refine runDown (L := single r6 (.cells #[.int .i64 k1, .int .i64 k2, .int .i64 k3, .int .i64 k4] 90 (0, 0)) :: L) hT hg hw hO hq hi3 (hgood.down i hi3) (fun h hO => ⟨_, rfl, same hO⟩) fun h c' o h1 h2 hq hO => ⟨_, rfl, ?_⟩
   exact hK _ _ _ (.down i o hi3 h1 h2) hq (by (refine hO.sp fun a => ?_; simp only [cnt_app, List.append_eq, cnt_cons, cnt_nil]; omega))
  obtain ⟨d, b, r, C, M, dc, dn, en, rv, hs, dcs, cc, cm, cb, c1, c2, c3, c4, hp, hcl, hb, hm, hd1, hd2, hdn, hen, hrv, hj⟩ := id hq
  subst hp
  have hO0 := hO
  refine If.mk (fun _ => ?_) (fun _ => ?_)
  ·replace hO := hO.drop1
   (have hO := (hO.perm t.perm).openJ hj; simp only [List.cons_append, List.nil_append] at hO)
   refine NN.go ?_
   refine LdI.g hO ?_
   refine If.dec (fun _ => same hO0) (fun e => ?_)
   have hbo : s.boots < 100 := by omega
   have ok := hgood.boot hbo
   refine NN.go ?_
   refine LdI.g hO ?_
   refine Rng.go (by omega) ?_
   refine NN.go ?_
   refine st1.go hO (show _ = some (ruB C d b M (fun i => s.has i) (fun i => s.down i) dc dn en rv ((s.boots + 1 : Nat) : Int)) by with_unfolding_all rfl) ?_
   clear hO; intro h hO
   refine NN.go ?_
   refine LdP.g hO ?_
   refine bookBoot hg hw hO hb ok.ep (by have := ok.el; omega) ok.fr fun h cb' hb' hO => ⟨_, _, rfl, ?_⟩
   have hO2 : Own G h ((single r (ruB C d b M (fun i => s.has i) (fun i => s.down i) dc dn en rv ((s.boots + 1 : Nat) : Int)) :: cb' :: cc 0 :: cc 1 :: cc 2 :: cm 0 :: cm 1 :: cm 2 :: c1 :: c2 :: c3 :: c4 :: dcs) ++ R) := by
    refine hO.sp fun a => ?_; simp only [ruB, cnt_app, List.append_eq, cnt_cons, cnt_nil, List.cons_append, Int.natCast_add, Int.natCast_one]; omega
   obtain ⟨cj, hj, hO⟩ := Own.closeE hO2
   have e1 : (endsI s.its).length = s.its.length + 1 := by simp [endsI]
   have e2 : (revsI s.its).length = s.its.length + 1 := by simp [revsI]
   have hil := ok.il
   have hdl := ok.dl
   have hq2 : RunQ (some ⟨r, 0, none⟩) s.booted (endsI s.its) (revsI s.its) (docsOf s.bk.done) s.bk.done cj := by
    refine ⟨d, b, r, C, M, dc, dn, en, rv, hs, dcs, cc, cm, cb', c1, c2, c3, c4, rfl, hcl, ?_, hm, hd1, hd2, hdn, hen, hrv, hj⟩
    have := hb'
    simp only [Ru.booted, List.map_append, List.map_cons, List.map_nil, It.bytes]
    exact this
   refine runGrown hO hq2 (by omega) (by omega) (by omega) fun h c' hq' hO => ⟨rfl, ?_⟩
   refine lawNum ⟨_, rfl, ?_⟩
   refine hK _ _ _ (.boot hbo) ?_ hO
   show RunQ _ s.booted (endsI (s.its ++ [.boot (s.bk.epoch + 1)])) (revsI (s.its ++ [.boot (s.bk.epoch + 1)])) (docsOf s.bk.done) s.bk.done c'
   rw [endsI_snoc, revsI_snoc, List.countP_append, ok.cn]
   exact hq'
  refine If.mk (fun _ => ?_) (fun _ => ?_)
  ·replace hO := hO.drop1
   (have hO := (hO.perm t.perm).openJ hj; simp only [List.cons_append, List.nil_append] at hO)
   have ok := hgood.sync
   refine NN.go ?_
   refine LdP.g hO ?_
   refine bookSync hO hb (by rw [List.length_map]; have := ok.pl; omega) (by have := ok.fr; omega) ok.sn (by rw [List.length_map]; exact ok.el) ok.ev fun h cb' m hb' hO => ⟨_, rfl, ?_⟩
   unfold S31_k2
   have hO2 : Own G h ((single r (ruB C d b M (fun i => s.has i) (fun i => s.down i) dc dn en rv s.boots) :: cb' :: cc 0 :: cc 1 :: cc 2 :: cm 0 :: cm 1 :: cm 2 :: c1 :: c2 :: c3 :: c4 :: dcs) ++ R) := by
    refine hO.sp fun a => ?_; simp only [cnt_app, List.append_eq, cnt_cons, cnt_nil, List.cons_append]; omega
   obtain ⟨cj, hj, hO⟩ := Own.closeE hO2
   exact hK _ _ _ .sync ⟨d, b, r, C, M, dc, dn, en, rv, hs, dcs, cc, cm, cb', c1, c2, c3, c4, rfl, hcl, hb', hm, hd1, hd2, hdn, hen, hrv, hj⟩ hO
  ·unfold S31_k2
   exact same hO0
 exact If.mk (fun _ => main _) (fun _ => main _)
end Go.Sl
set_option maxRecDepth 100000
namespace Go.Sl
open Go Go.Proofs
variable {G h : Heap} {L R : List Heap} {K : Value → Heap → Prop} {Kp : PK}
def ru00 : Ru := ⟨fun i => cl0 (i + 1), bk0, [], 0, fun _ => [], fun _ => 0, fun _ => 0, 0⟩
/-- A run that has just begun. -/
def ru0 : Ru := { ru00.booted with boots := 0 }
theorem lawBegun (hT : Gt G) (hg : Gl G) (hw : Gw G) (hO : Own G h L)
  (hK : ∀ h' p c', RunP p ru0 c' → Own G h' (c' :: L) → K (.tuple #[.pointer p, .bool true]) h') :
  CallF Tryz.prog G 30 #[] K Kp h := by
 refine S30_ok ?_
 unfold S30
 refine newK.go hO ?_
 clear hO; intro r1 h hO
 refine newK.go hO ?_
 clear hO; intro r2 h hO
 refine LoopS.go (fun vs h' => ∃ (n : Nat) (C : Nat → Option Addr) (cc : Nat → Heap), n ≤ 3 ∧ vs = [.int .i64 n] ∧ (∀ i, i < n → ClientP (C i) (cl0 (i + 1)) (cc i)) ∧ (∀ i, n ≤ i → cc i = emp) ∧
  Own G h' (single r2 (ruB C none none (fun _ => (none, 0, 0)) (fun _ => 0) (fun _ => 0) (some ⟨r1, 0, none⟩, 1, 1) (none, 0, 0) (none, 0, 0) (none, 0, 0) 0) :: single r1 (blk eDc (0, 0) [(none, 0, 0)]) :: cc 0 :: cc 1 :: cc 2 :: L)) (fun vs _ => match vs with | [.int _ n] => (3 - n).toNat | _ => 0)
  ⟨0, fun _ => none, fun _ => emp, by omega, rfl, fun i hi => by omega, fun _ _ => rfl, (show Own G _ (single r2 (ruB (fun _ => none) none none (fun _ => (none, 0, 0)) (fun _ => 0) (fun _ => 0) (some ⟨r1, 0, none⟩, 1, 1) (none, 0, 0) (none, 0, 0) (none, 0, 0) 0) :: single r1 (blk eDc (0, 0) [(none, 0, 0)]) :: L) from hO).addEmp.addEmp.addEmp.perm (perm_cnt fun a => by simp only [cnt_cons]; omega)⟩ ?_
 clear hO
 rintro jv vs h ⟨n, C, cc, hn, rfl, hcl, hce, hO⟩
 unfold S30_l3
 refine ⟨_, rfl, If.dec (fun hlt => ?_) (fun hlt => ?_)⟩
 ·have hn3 : n < 3 := by omega
  refine Rng.go (by omega) ?_
  refine lawJoined hg hw hO (by omega) fun h p c hp hc hO => ⟨_, _, rfl, If.f rfl ?_⟩
  refine Rq.go (by omega) ?_
  rw [add_mk, Int.toNat_natCast]
  refine st1.go hO (ru_sC hn3 p) ?_
  clear hO; intro h hO
  refine Rng.go (by omega) ⟨⟨n + 1, upd C n p, upd cc n c, by omega, rfl, ?_, ?_, ?_⟩, by simp only; omega⟩
  ·intro i hi
   by_cases e : i = n
   ·subst e; rw [upd_self, upd_self]; exact hc
   ·rw [upd_ne e, upd_ne e]; exact hcl i (by omega)
  ·intro i hi
   rw [upd_ne (by omega)]; exact hce i (by omega)
  ·refine hO.sp fun a => ?_
   have e1 := oth_upd hn3 cc c a
   have e2 := oth_cnt hn3 cc a
   simp only [cnt_app, List.append_eq, cnt_cons, cnt_nil]; omega
 ·have hn3 : n = 3 := by omega
  subst hn3
  unfold S30_k1
  refine diskNew hO fun h d cd hd hO => ⟨_, rfl, ?_⟩
  have hdp : ∃ b, d = some ⟨b, 0, none⟩ := by obtain ⟨b, _, _, _, _, e, _⟩ := hd; exact ⟨b, e⟩
  refine st1.go hO (show _ = some (ruB C d none (fun _ => (none, 0, 0)) (fun _ => 0) (fun _ => 0) (some ⟨r1, 0, none⟩, 1, 1) (none, 0, 0) (none, 0, 0) (none, 0, 0) 0) by with_unfolding_all rfl) ?_
  clear hO; intro h hO
  refine LdP.g hO ?_
  refine If.f (by obtain ⟨b, rfl⟩ := hdp; rfl) ?_
  refine LdP.g hO ?_
  refine bookOpen (its := []) (tl := []) hT hg hw hO hd .nil (.inl rfl) (by show 0 ≤ _; omega) (by simp) fun h b v cb cf n' hn' hv hb hO => ?_
  obtain ⟨rfl, rfl⟩ := hv.nil
  obtain rfl := hn' rfl
  have hO := hO.drop2
  refine ⟨_, _, rfl, ?_⟩
  refine If.f (by obtain ⟨b, rfl⟩ := hb.ptr; rfl) (Rq.go (.inl rfl) ?_)
  unfold S30_k2
  refine If.f rfl ?_
  refine st1.go hO (show _ = some (ruB C d b (fun _ => (none, 0, 0)) (fun _ => 0) (fun _ => 0) (some ⟨r1, 0, none⟩, 1, 1) (none, 0, 0) (none, 0, 0) (none, 0, 0) 0) by with_unfolding_all rfl) ?_
  clear hO; intro h hO
  have hO2 : Own G h ((single r2 (ruB C d b (fun _ => (none, 0, 0)) (fun _ => 0) (fun _ => 0) (some ⟨r1, 0, none⟩, 1, 1) (none, 0, 0) (none, 0, 0) (none, 0, 0) 0) :: cb :: cc 0 :: cc 1 :: cc 2 :: emp :: emp :: emp :: single r1 (blk eDc (0, 0) [(none, 0, 0)]) :: emp :: emp :: emp :: [emp]) ++ L) := by
   refine (hO.addEmp.addEmp.addEmp.addEmp.addEmp.addEmp.addEmp).perm (perm_cnt fun a => ?_)
   simp only [cnt_app, List.append_eq, cnt_cons, cnt_nil, List.cons_append]; omega
  obtain ⟨cj, hj, hO⟩ := Own.closeE hO2
  clear hO2
  have hq : RunQX (some ⟨r2, 0, none⟩) d b ru00 [] [] (docsOf []) [] cj := by
   refine ⟨r2, C, fun _ => (none, 0, 0), (some ⟨r1, 0, none⟩, 1, 1), (none, 0, 0), (none, 0, 0), (none, 0, 0), [(none, 0, 0)], [emp], cc, fun _ => emp, cb, _, emp, emp, emp, rfl, hcl, hb, fun _ _ => .no, Sli.bk (e := eDc) (b := r1) (xs := [(none, 0, 0)]) [] (0, 0) (zok_0 _), ?_, .no, .no, .no, hj⟩
   refine ⟨rfl, rfl, fun i hd d pc e1 e2 e3 => ?_⟩
   cases i with
   | zero => cases e1; cases e2; cases e3; exact fun _ _ => Rdl.nil _ _
   | succ i => cases e1
  refine runGrownX hO hq (by simp) (by simp) (by simp) fun h c hq hO => ⟨rfl, ?_⟩
  clear hj hb hd hcl hce
  obtain ⟨r, C, M, dc, dn, en, rv, hs, dcs, cc, cm, cb, c1, c2, c3, c4, hp, hcl, hb, hm, hd1, hd2, hdn, hen, hrv, hj⟩ := hq
  cases hp
  replace hO := hO.openJ hj
  simp only [List.cons_append] at hO
  refine bookBoot hg hw hO hb (by decide) (by decide) (by show 0 ≤ _; omega) fun h cb' hb' hO => ⟨_, _, rfl, ?_⟩
  have hO2 : Own G h ((single r2 (ruB C d b M (fun i => ((ru0.has i : Nat) : Int)) (fun i => ((ru0.down i : Nat) : Int)) dc dn en rv ((ru0.boots : Nat) : Int)) :: cb' :: cc 0 :: cc 1 :: cc 2 :: cm 0 :: cm 1 :: cm 2 :: c1 :: c2 :: c3 :: c4 :: dcs) ++ L) := by
   refine hO.sp fun a => ?_; simp only [ru0, ru00, Ru.booted, cnt_app, List.append_eq, cnt_cons, cnt_nil, List.cons_append]; omega
  obtain ⟨cj, hj, hO⟩ := Own.closeE hO2
  clear hO2
  have hq2 : RunQX (some ⟨r2, 0, none⟩) d b ru0 (endsI []) (revsI []) (docsOf []) [] cj := ⟨r2, C, M, dc, dn, en, rv, hs, dcs, cc, cm, cb', c1, c2, c3, c4, rfl, hcl, hb', hm, hd1, hd2, hdn, hen, hrv, hj⟩
  refine runGrownX hO hq2 (by decide) (by decide) (by decide) fun h c hq hO => ⟨rfl, ?_⟩
  refine lawNum ⟨_, rfl, If.t rfl ?_⟩
  have fin : RunP (some ⟨r2, 0, none⟩) ru0 c := ⟨d, b, by
   show RunQX _ d b ru0 (endsI ([] ++ [.boot (bk0.epoch + 1)])) (revsI ([] ++ [.boot (bk0.epoch + 1)])) (docsOf []) [] c
   rw [endsI_snoc, revsI_snoc]
   exact hq⟩
  clear hj hb hcl hd1 hd2 hdn hen hrv hq2 hb' hm
  obtain ⟨r, C, M, dc, dn, en, rv, hs, dcs, cc, cm, cb, c1, c2, c3, c4, hp, hcl, hb, hm, hd1, hd2, hdn, hen, hrv, hj⟩ := hq
  cases hp
  have hO0 := hO
  replace hO := hO.openJ hj
  simp only [List.cons_append] at hO
  refine LdP.g hO ?_
  refine bookSize hO hb ⟨_, rfl, ?_⟩
  unfold S30_k3
  have := frames_ge (pls := ru0.its.map It.bytes)
  rw [decide_eq_true (by rw [List.length_map, show ru0.its.length = 1 from rfl] at this; omega)]
  exact hK _ _ _ fin hO0
end Go.Sl
set_option maxRecDepth 100000
namespace Go.Sl
open Go Go.Proofs
variable {G h : Heap} {L R : List Heap} {K : Value → Heap → Prop} {Kp : PK}
/-- What holds of every run that has been played. -/
structure Invs (I : Ru → Prop) : Prop where
 z : I ru0
 st : ∀ s s', I s → Stp3 s s' → I s'
 gd : ∀ s, I s → Good s
 run : ∀ s, I s → Runs bk0 s.its s.bk
 il : ∀ s, I s → s.its.length ≤ 4000
 fr : ∀ s, I s → (frames (s.its.map It.bytes)).length ≤ 200000
 de : ∀ s, I s → s.bk.done.length = s.bk.edits.length
 ed : ∀ s, I s → s.bk.edits.length ≤ 4000
 fit : ∀ s, I s → Fit s.bk.done
abbrev Pl4 := Int × Int × Int × Int
def ePl : En Pl4 := ⟨90, 4, fun x => [.int .i64 x.1, .int .i64 x.2.1, .int .i64 x.2.2.1, .int .i64 x.2.2.2], (0, 0, 0, 0)⟩
theorem ePl_ok : ePl.Ok := ⟨fun _ => rfl, by decide, fun x v hv => by simp [ePl] at hv; rcases hv with rfl | rfl | rfl | rfl <;> rfl⟩
theorem lawRan {pa : Option Addr} {l c : Nat} {xs : List Pl4} {I : Ru → Prop} (hI : Invs I) (hT : Gt G) (hg : Gl G) (hw : Gw G) (hO : Own G h L) (hr : RdA G ePl pa l xs) (hsm : l ≤ 9223372036854775807)
  (hK : ∀ h' p p2 s c1 c2, I s → RunP p s c1 → (∃ b, p2 = some ⟨b, 0, none⟩) → PastP p2 s.bk (psOf s.bk.done) c2 → Own G h' (c2 :: c1 :: L) → K (.tuple #[.pointer p, .pointer p2, .bool true]) h') :
  CallF Tryz.prog G 10 #[.slice pa l c] K Kp h := by
 refine S10_ok ?_
 unfold S10
 refine lawBegun hT hg hw hO fun h p c1 hq hO => ⟨_, _, rfl, If.f rfl ?_⟩
 refine LoopS.go (fun vs h' => ∃ (n : Nat) (s : Ru) (c1 : Heap), n ≤ l ∧ vs = [.int .i64 n] ∧ I s ∧ RunP p s c1 ∧ Own G h' (c1 :: L)) (fun vs _ => match vs with | [.int _ n] => (l - n).toNat | _ => 0) ⟨0, ru0, c1, by omega, rfl, hI.z, hq, hO⟩ ?_
 clear hO hq c1
 rintro jv vs h ⟨n, s, c1, hn, rfl, hs, hq, hO⟩
 unfold S10_l5
 refine ⟨_, rfl, If.dec (fun hlt => ?_) (fun hlt => ?_)⟩
 ·refine Rq.go ⟨by omega, hlt⟩ ?_
  obtain ⟨x, hx, hn'⟩ := (hr _ _ hO).at ePl_ok (i := (n : Int)) (by omega) hlt
  refine hn' _ fun a _ hc => ?_
  refine LdI.i (hc 0 _ rfl) (LdI.i (hc 1 _ rfl) (LdI.i (hc 2 _ rfl) (LdI.i (hc 3 _ rfl) ?_)))
  refine runPlay hT hg hw hO hq (hI.gd s hs) fun h c2 s2 h1 hq hO => ⟨_, rfl, If.f rfl (Rng.go (by omega) ⟨⟨n + 1, s2, c2, by omega, rfl, hI.st _ _ hs h1, hq, hO⟩, by simp only; omega⟩)⟩
 ·unfold S10_k1
  refine LoopS.go (fun vs h' => ∃ (n : Nat) (s : Ru) (c1 : Heap), n ≤ 3 ∧ vs = [.int .i64 n] ∧ I s ∧ RunP p s c1 ∧ Own G h' (c1 :: L)) (fun vs _ => match vs with | [.int _ n] => (3 - n).toNat | _ => 0) ⟨0, s, c1, by omega, rfl, hs, hq, hO⟩ ?_
  clear hO hq hs hlt c1 s hn n
  rintro jv vs h ⟨n, s, c1, hn, rfl, hs, hq, hO⟩
  unfold S10_l10
  obtain ⟨r, rfl⟩ : ∃ r, p = some ⟨r, 0, none⟩ := by obtain ⟨_, _, r, _, _, _, _, _, _, _, _, _, _, _, _, _, _, _, e, _⟩ := hq; exact ⟨r, e⟩
  refine ⟨_, rfl, If.dec (fun hlt => ?_) (fun hlt => ?_)⟩
  ·have hn3 : n < 3 := by omega
   refine LoopS.go (fun vs h' => ∃ (s : Ru) (c1 : Heap), vs = [] ∧ I s ∧ RunP (some ⟨r, 0, none⟩) s c1 ∧ Own G h' (c1 :: L)) (fun vs h => match hcell (rd G h) ⟨r, 0 + 8 + n * 1, none⟩ with | some (.int _ m) => (64 - m).toNat | _ => 0) ⟨s, c1, rfl, hs, hq, hO⟩ ?_
   clear hO hq hs c1 s
   rintro jv vs h ⟨s, c1, rfl, hs, hq, hO⟩
   have cell : ∀ {h : Heap} {s : Ru} {c1 : Heap}, RunP (some ⟨r, 0, none⟩) s c1 → Own G h (c1 :: L) → hcell (rd G h) ⟨r, 0 + 8 + n * 1, none⟩ = some (.int .i64 (s.has n)) := fun {h s c1} hq hO => by
    obtain ⟨d, b, r', C, M, dc, dn, en, rv, hs, dcs, cc, cm, cb, c1, c2, c3, c4, hp, hcl, hb, hm, hd1, hd2, hdn, hen, hrv, hj⟩ := hq
    cases hp
    replace hO := hO.openJ hj
    simp only [List.cons_append] at hO
    exact hcell_own hO inferInstance (ru_H hn3)
   have e0 := cell hq hO
   rw [e0]
   unfold S10_l12
   have hg2 := hI.gd s hs
   obtain ⟨d, b, r', C, M, dc, dn, en, rv, hs', dcs, cc, cm, cb, c1', c2, c3, c4, hp, hcl, hb, hm, hd1, hd2, hdn, hen, hrv, hj⟩ := id hq
   cases hp
   have hO0 := hO
   replace hO := hO.openJ hj
   simp only [List.cons_append] at hO
   refine ⟨rfl, NN.go (Rq.go (by omega) ?_)⟩
   rw [add_mk, Int.toNat_natCast]
   refine LdI.go hO (ru_H hn3) ?_
   refine NN.go (Rq.go (by omega) ?_)
   rw [add_mk]
   refine LdSl.go hO (ru_M hn3) ?_
   have hml := (hm n hn3).len
   refine If.dec (fun hlt => ?_) (fun hlt => ?_)
   ·have hlt2 : s.has n < (s.mine n).length := by omega
    refine runUp hT hg hw hO0 hq hn3 (hg2.m64 n hn3) (hg2.up n hn3) (fun e => absurd hlt2 e) fun h c2 e hd h1 h2 hq hO => ⟨_, rfl, If.f rfl ?_⟩
    have e1 := cell hq hO
    refine ⟨⟨_, c2, rfl, hI.st _ _ hs (.up n e hd hn3 h1 h2), hq, hO⟩, ?_⟩
    rw [e1]
    have hm := hg2.m64 n hn3
    have : (s.upped n e hd).has n = s.has n + 1 := upd_self _ _ _
    rw [this]
    simp only; omega
   ·unfold S10_k2
    exact Rng.go (by omega) ⟨⟨n + 1, s, c1, by omega, rfl, hs, hq, hO0⟩, by simp only; omega⟩
  ·unfold S10_k3
   obtain ⟨d, b, r', C, M, dc, dn, en, rv, hs', dcs, cc, cm, cb, c1', c2, c3, c4, hp, hcl, hb, hm, hd1, hd2, hdn, hen, hrv, hj⟩ := id hq
   cases hp
   have hO0 := hO
   replace hO := hO.openJ hj
   simp only [List.cons_append] at hO
   refine NN.go ?_
   refine LdP.g hO ?_
   have hfr := hI.fr s hs
   refine bookBytes hO hb (by omega) fun h b2 pc hsl hO => ⟨_, _, _, rfl, ?_⟩
   have hO2 := Own.closeWith (R := pc :: L) hj (hO.sp fun a => by simp only [cnt_app, List.append_eq, cnt_cons, cnt_nil, List.cons_append]; omega)
   clear hO
   refine revOpen (tl := []) hT hg hw hO2 (by rw [List.append_nil]; exact hsl.rdl (by simp)) (hI.run s hs) (.inl rfl) (by simp only [List.length_nil]; omega) (by have := hI.il s hs; omega) (hI.de s hs) (hI.ed s hs) (hI.fit s hs) fun h p2 v c2 cf hp2 hv hpq hO => ?_
   obtain ⟨rfl, rfl⟩ := hv.nil
   have hO := hO.drop2
   refine ⟨_, _, rfl, ?_⟩
   obtain ⟨b3, rfl⟩ := hp2
   refine If.t rfl (Rq.go (.inl rfl) ?_)
   unfold S10_k4
   exact hK _ _ _ s _ _ hs hq ⟨_, rfl⟩ hpq (by (refine hO.sp fun a => ?_; simp only [cnt_app, List.append_eq, cnt_cons, cnt_nil]; omega))
end Go.Sl
set_option maxRecDepth 100000
namespace Go.Sl
open Go Go.Proofs
variable {G h : Heap} {L R : List Heap} {K : Value → Heap → Prop} {Kp : PK}
theorem docsOf_get {ops : List Op} {k : Nat} (h : k ≤ ops.length) : (docsOf ops)[k]? = some (replayD (ops.take k)) := by
 unfold docsOf
 rw [List.getElem?_map, List.getElem?_range (by omega)]
 rfl
theorem docsOf_len (ops : List Op) : (docsOf ops).length = ops.length + 1 := by simp [docsOf]
theorem bne_self {α : Type} [BEq α] [ReflBEq α] (a : α) : (!(a == a)) = false := by simp
end Go.Sl
set_option maxRecDepth 100000
namespace Go.Sl
open Go Go.Proofs
variable {G h : Heap} {L R : List Heap} {K : Value → Heap → Prop} {Kp : PK}
/-! The plain law: first what lies apart from a run. -/
theorem shiftO_who (a b : Op) (f : Bool) : (shiftO a b f).client = a.client ∧ (shiftO a b f).seq = a.seq := by
 unfold shiftO
 cases (ruleF (rowI a.kind) (rowI b.kind) a.pos b.pos f).2 <;> exact ⟨rfl, rfl⟩
theorem pst_who1 (f : Bool) (l : List Op) : ∀ o, (pst o l f).1.client = o.client ∧ (pst o l f).1.seq = o.seq := by
 induction l with
 | nil => intro o; exact ⟨rfl, rfl⟩
 | cons x l ih => intro o; simp only [pst]; rw [(ih _).1, (ih _).2]; exact shiftO_who _ _ _
theorem pst_who2 (f : Bool) (l : List Op) : ∀ o, (pst o l f).2.map (fun x => (x.client, x.seq)) = l.map (fun x => (x.client, x.seq)) := by
 induction l with
 | nil => intro o; rfl
 | cons x l ih => intro o; simp only [pst, List.map_cons, ih]; rw [(shiftO_who x o f).1, (shiftO_who x o f).2]
theorem applyD_len1 (d : List Elm) (o : Op) : (applyD d o).length ≤ d.length + 1 := applyD_len d o
theorem FitL.mem {l : List Op} : ∀ {d : List Elm}, FitL d l → ∀ o ∈ l, FitP (d.length + l.length) o := by
 induction l with
 | nil => intro d _ o ho; cases ho
 | cons x l ih =>
  intro d h o ho
  rcases List.mem_cons.1 ho with rfl | ho
  ·exact h.1.mono (by simp)
  ·have := applyD_len1 d x
   exact (ih h.2 o ho).mono (by simp only [List.length_cons]; omega)
theorem sumG_le (l : List Op) : -(l.length : Int) ≤ sumG l ∧ sumG l ≤ l.length := by
 induction l with
 | nil => simp [sumG]
 | cons x l ih =>
  have := gr_le x
  unfold sumG at ih ⊢
  simp only [List.foldr_cons, List.length_cons]; omega
theorem replayD_app (D : List Op) (l : List Op) : replayD (D ++ l) = applyL (replayD D) l := by unfold replayD applyL; rw [List.foldl_append]
theorem replayD_snoc (D : List Op) (d : Op) : replayD (D ++ [d]) = applyD (replayD D) d := by rw [replayD_app]; rfl
theorem replayD_le (D : List Op) : (replayD D).length ≤ D.length := by
 have := replayD_len D D.length
 rwa [List.take_length] at this
theorem FitL.at {l : List Op} : ∀ {d : List Elm}, FitL d l → ∀ {k : Nat} {o : Op}, l[k]? = some o → FitP (applyL d (l.take k)).length o := by
 induction l with
 | nil => intro d _ k o h; simp at h
 | cons x l ih =>
  intro d h k o ho
  cases k with
  | zero => simp only [List.getElem?_cons_zero, Option.some.injEq] at ho; subst ho; exact h.1
  | succ k => exact ih h.2 (by simpa using ho)
theorem FitL.fit {D : List Op} (h : FitL [] D) (hl : D.length ≤ 4000) : Fit D := fun k o ho => by
 have h1 := h.at ho
 have h2 := replayD_len D k
 have h3 := (List.getElem?_eq_some_iff.1 ho).1
 have e : replayD (D.take k) = applyL [] (D.take k) := rfl
 rw [← e] at h1
 exact ⟨h1.fits (by omega), h1.ch⟩
def prs (q : List Mk) : List (Int × Op) := q.map fun m => (m.mark, m.op)
theorem prs_ops (q : List Mk) : (prs q).map (·.2) = q.map (·.op) := by simp [prs]
theorem prs_marks (q : List Mk) : (prs q).map (·.1) = q.map (·.mark) := by simp [prs]
theorem dropT_prs (t : Int) (q : List Mk) : dropT t (prs q) = prs (dropM t q) := by
 induction q with
 | nil => rfl
 | cons m q ih =>
  have e : prs (m :: q) = (m.mark, m.op) :: prs q := rfl
  unfold dropT dropM at *
  rw [e, List.dropWhile_cons, List.dropWhile_cons]
  by_cases h : m.mark ≤ t
  ·simp only [h, decide_true, if_true]; exact ih
  ·simp only [h, decide_false]; rfl
theorem zip_remk (q : List Mk) : ∀ l : List Op, (q.map (·.mark)).zip l = prs (remk q l) := by
 induction q with
 | nil => intro l; rfl
 | cons m q ih =>
  intro l
  cases l with
  | nil => rfl
  | cons o l =>
   have e1 : remk (m :: q) (o :: l) = ⟨m.mark, o⟩ :: remk q l := rfl
   have e2 : prs (⟨m.mark, o⟩ :: remk q l) = (m.mark, o) :: prs (remk q l) := rfl
   rw [List.map_cons, List.zip_cons_cons, e1, e2, ih]
theorem remk_ops {q : List Mk} : ∀ {l : List Op}, l.length = q.length → (remk q l).map (·.op) = l := by
 induction q with
 | nil => intro l h; cases l with | nil => rfl | cons o l => simp at h
 | cons m q ih =>
  intro l h
  cases l with
  | nil => simp at h
  | cons o l =>
   have e1 : remk (m :: q) (o :: l) = ⟨m.mark, o⟩ :: remk q l := rfl
   rw [e1, List.map_cons, ih (by simpa using h)]
theorem remk_marks {q : List Mk} : ∀ {l : List Op}, l.length = q.length → (remk q l).map (·.mark) = q.map (·.mark) := by
 induction q with
 | nil => intro l h; cases l with | nil => rfl | cons o l => simp at h
 | cons m q ih =>
  intro l h
  cases l with
  | nil => simp at h
  | cons o l =>
   have e1 : remk (m :: q) (o :: l) = ⟨m.mark, o⟩ :: remk q l := rfl
   rw [e1, List.map_cons, List.map_cons, ih (by simpa using h)]
theorem sstep_prs (hd : Hd) (e : Ed) : sstep (prs hd.q) e = ((hd.step e).1, prs (hd.taken e).q) := by
 unfold sstep Hd.taken Hd.step
 rw [dropT_prs, prs_ops, prs_marks, past_pst]
 simp only
 rw [zip_remk]
theorem step_len (hd : Hd) (e : Ed) : (hd.step e).2.length = (dropM e.tag hd.q).length := by
 unfold Hd.step; rw [past_pst, pst_len, List.length_map]
theorem taken_ops (hd : Hd) (e : Ed) : (hd.taken e).q.map (·.op) = (hd.step e).2 := remk_ops (step_len hd e)
theorem taken_marks (hd : Hd) (e : Ed) : (hd.taken e).q.map (·.mark) = (dropM e.tag hd.q).map (·.mark) := remk_marks (step_len hd e)
theorem dropT_succ {k : Int} {q : List (Int × Op)} : dropT (k + 1) (dropT k q) = dropT (k + 1) q := by
 unfold dropT
 induction q with
 | nil => rfl
 | cons x q ih =>
  rw [List.dropWhile_cons (xs := q) (p := fun m : Int × Op => decide (m.1 ≤ k))]
  by_cases h : x.1 ≤ k
  ·rw [if_pos (by simpa using h), ih, List.dropWhile_cons, if_pos (by simp; omega)]
  ·rw [if_neg (by simpa using h)]
theorem ckN_eq {tag : Int} {q : List Mk} (h : q.Pairwise fun a b => a.mark < b.mark) : ∀ l : Int, ckN l tag q = l - sumG ((dropM tag q).map (·.op)) := by
 induction q with
 | nil => intro l; show l = l - 0; omega
 | cons m q ih =>
  intro l
  have hp := List.pairwise_cons.1 h
  have e1 : ∀ l, ckN l tag (m :: q) = ckN (if m.mark > tag then l - gr m.op else l) tag q := fun l => rfl
  rw [e1]
  unfold dropM
  rw [List.dropWhile_cons]
  by_cases hm : m.mark ≤ tag
  ·rw [if_neg (by omega), if_pos (by simpa using hm)]
   exact ih hp.2 l
  ·rw [if_pos (by omega), if_neg (by simpa using hm), ih hp.2]
   have e2 : dropM tag q = q := by
    cases q with
    | nil => rfl
    | cons y q =>
     unfold dropM
     have := hp.1 y (by simp)
     rw [List.dropWhile_cons, if_neg (by simp; omega)]
   rw [e2]
   show l - gr m.op - sumG (q.map (·.op)) = l - (gr m.op + sumG (q.map (·.op)))
   omega
theorem SSim.fitl {q : List (Int × Op)} {t s : Int} {Y : List Elm} {es : List Ed} {ds : List Op} {qf : List (Int × Op)} {Yf : List Elm} (h : SSim q t s Y es ds qf Yf) : FitL Y ds ∧ applyL Y ds = Yf := by
 induction h with
 | nil => exact ⟨trivial, rfl⟩
 | cons X h1 h2 h3 h4 h5 h6 _ ih => exact ⟨⟨h6 ▸ sstep_done h4 h5, ih.1⟩, ih.2⟩
def cntC (c : Int) (l : List Op) : Nat := l.countP fun o => decide (o.client = c)
theorem cntC_snoc (c : Int) (l : List Op) (o : Op) : cntC c (l ++ [o]) = cntC c l + if o.client = c then 1 else 0 := by
 unfold cntC
 rw [List.countP_append]
 by_cases h : o.client = c
 ·rw [if_pos h]; simp [h]
 ·rw [if_neg h]; simp [h]
theorem take_snoc {l : List Op} {k : Nat} {o : Op} (h : l[k]? = some o) : l.take (k + 1) = l.take k ++ [o] := by
 rw [List.take_add_one, h]; rfl
theorem frames_le {pls : List (List UInt8)} (h : ∀ pl ∈ pls, pl.length ≤ 64) : (frames pls).length ≤ 72 * pls.length := by
 induction pls with
 | nil => simp [frames]
 | cons x l ih =>
  have := ih fun pl hp => h pl (by simp [hp])
  have h2 := h x (by simp)
  rw [show x :: l = [x] ++ l from rfl, frames_app, frames_one, List.length_append, frame_len, List.length_append, List.length_singleton]
  omega
end Go.Sl
set_option maxRecDepth 100000
namespace Go.Sl
open Go Go.Proofs
variable {G h : Heap} {L R : List Heap} {K : Value → Heap → Prop} {Kp : PK}
structure HI (N : Nat) (Y : List Elm) (h : Hd) : Prop where
 ql : h.q.length ≤ N
 la : h.last ≤ N
 mks : ∀ m ∈ h.q, m.mark ≤ N
 pw : h.q.Pairwise fun a b => a.mark < b.mark
 fit : ∃ Z, FitL Z (h.q.map (·.op)) ∧ applyL Z (h.q.map (·.op)) = Y
theorem HI.push {N : Nat} {Y : List Elm} {h : Hd} (hh : HI N Y h) {d : Op} (hd : FitP Y.length d) : HI (N + 1) (applyD Y d) (keepH ((N + 1 : Nat) : Int) d h) := by
 obtain ⟨h1, h2, h3, h4, Z, h5, h6⟩ := hh
 refine ⟨by simp [keepH]; omega, by simp [keepH], fun m hm => ?_, ?_, Z, ?_, ?_⟩
 ·rcases List.mem_append.1 hm with hm | hm
  ·have := h3 m hm; omega
  ·rw [List.mem_singleton.1 hm]; exact Int.le_refl _
 ·refine List.pairwise_append.2 ⟨h4, List.pairwise_singleton _ _, fun a ha b hb => ?_⟩
  rw [List.mem_singleton.1 hb]
  have := h3 a ha
  simp only; omega
 ·simp only [keepH, List.map_append, List.map_cons, List.map_nil]
  exact FitL_app.2 ⟨h5, by rw [h6]; exact ⟨hd, trivial⟩⟩
 ·simp only [keepH, List.map_append, List.map_cons, List.map_nil]
  rw [applyL_app, h6]; rfl
theorem HI.taken {N : Nat} {Y X : List Elm} {h : Hd} {e : Ed} (hh : HI N Y h) (h4 : FitP X.length e.op) (h5 : FitL X ((dropM e.tag h.q).map (·.op))) (h6 : applyL X ((dropM e.tag h.q).map (·.op)) = Y) : HI (N + 1) (applyD Y (h.step e).1) (h.taken e) := by
 obtain ⟨g1, g2, g3, g4, -⟩ := hh
 have hl : (h.taken e).q.length = (dropM e.tag h.q).length := by
  have := congrArg List.length (taken_marks h e)
  simpa using this
 have hl2 := dropM_len e.tag h.q
 have hsub : (dropM e.tag h.q).Sublist h.q := by unfold dropM; exact List.dropWhile_sublist _
 have hmk := taken_marks h e
 have hop := taken_ops h e
 have hpast := past_ok (f := true) h4 h5
 refine ⟨by omega, ?_, fun m hm => ?_, ?_, applyD X e.op, ?_, ?_⟩
 ·show h.last ≤ _; omega
 ·have : m.mark ∈ (h.taken e).q.map (·.mark) := List.mem_map_of_mem hm
  rw [hmk] at this
  obtain ⟨m2, hm2, e2⟩ := List.mem_map.1 this
  have := g3 m2 (hsub.subset hm2)
  omega
 ·have : ((h.taken e).q.map (·.mark)).Pairwise (· < ·) := by
   rw [hmk]; exact List.pairwise_map.2 (g4.sublist hsub)
  exact List.pairwise_map.1 this
 ·rw [hop]; unfold Hd.step; rw [past_pst]; exact hpast.2.1
 ·rw [hop]; unfold Hd.step; rw [past_pst, hpast.2.2, h6]
/-- The book's part of what holds of a run. -/
structure BI (s : Ru) : Prop where
 nn : s.bk.done.length = s.has 0 + s.has 1 + s.has 2
 de : s.bk.edits.length = s.bk.done.length
 fitl : FitL [] s.bk.done
 len : s.bk.length = (replayD s.bk.done).length
 bo : s.boots ≤ 100
 ep : s.bk.epoch = s.boots + 1
 il : s.its.length = s.boots + 1 + s.bk.done.length
 el : s.bk.edited.length = s.its.length
 ev : ∀ v ∈ s.bk.edited, 0 ≤ v ∧ v ≤ s.bk.done.length
 cn : s.its.countP isEdit = s.bk.done.length
 run : Runs bk0 s.its s.bk
 syn : s.syn ≤ (frames (s.its.map It.bytes)).length
 hl : s.bk.hands.length = 65
 hi : ∀ (j : Nat) (h : Hd), s.bk.hands[j]? = some h → HI s.bk.done.length (replayD s.bk.done) h
 rv : ∀ i : Nat, i < 3 → ∀ q : Int, s.has i < q → s.bk.revs ((i : Int) + 1, q) = none
 sq : ∀ (k : Nat) (o : Op), s.bk.done[k]? = some o → o.seq = cntC o.client (s.bk.done.take k) + 1
 cl : ∀ o ∈ s.bk.done, 1 ≤ o.client ∧ o.client ≤ 3
 hc : ∀ i : Nat, i < 3 → cntC ((i : Int) + 1) s.bk.done = s.has i
/-- A client's part. -/
structure CI (s : Ru) (i : Nat) : Prop where
 id : (s.cl i).id = i + 1
 ep : (s.cl i).epoch = 1
 md : (s.cl i).made = (s.mine i).length
 hv : (s.cl i).have_ = s.down i
 cu : (s.cl i).cum = s.down i
 ba : (s.cl i).base = 0
 he : (s.cl i).held = none
 m64 : (s.mine i).length ≤ 64
 hm : s.has i ≤ (s.mine i).length
 dn : s.down i ≤ s.bk.done.length
 fl : (s.cl i).flast = (s.mine i).length
 le : (s.cl i).left.length = (s.mine i).length
 pe : (s.cl i).pend.length = (s.cl i).forms.length
 fo : (s.cl i).forms.length ≤ (s.mine i).length
 tx : (s.cl i).text.length ≤ s.down i + (s.mine i).length
 mi : ∀ (j : Nat) (e : Ed), (s.mine i)[j]? = some e → e.op.client = i + 1 ∧ e.op.seq = j + 1 ∧ 0 ≤ e.tag ∧ e.tag ≤ s.down i
 fm : ∀ (j : Nat) (f : Mk), (s.cl i).forms[j]? = some f → f.op.client = i + 1 ∧ f.op.seq = f.mark ∧ f.mark = (s.mine i).length - (s.cl i).forms.length + j + 1
 ft : FitL (replayD (s.bk.done.take (s.down i))) ((s.cl i).forms.map (·.op)) ∧ applyL (replayD (s.bk.done.take (s.down i))) ((s.cl i).forms.map (·.op)) = (s.cl i).text
 la : (s.cl i).last.length = 65 ∧ ∀ c : Nat, 1 ≤ c → c ≤ 3 → c ≠ i + 1 → (s.cl i).last[c]? = some (cntC c (s.bk.done.take (s.down i)) : Int)
 hd : ∃ hd ds qf Tf outs, s.bk.hands[i + 1]? = some hd ∧ hd.seq = s.has i ∧ hd.tag ≤ s.down i ∧
  SSim (prs hd.q) hd.tag hd.seq (replayD s.bk.done) ((s.mine i).drop (s.has i)) ds qf Tf ∧
  CSim (i + 1) (s.down i) ((s.cl i).forms.map (·.op)) (s.cl i).text (s.bk.done.drop (s.down i)) ds Tf outs ∧ outs = dropT (s.down i) qf
structure RInv (s : Ru) : Prop where
 b : BI s
 c : ∀ i, i < 3 → CI s i
theorem RInv.small {s : Ru} (h : RInv s) : s.bk.done.length ≤ 192 ∧ s.its.length ≤ 293 ∧ (frames (s.its.map It.bytes)).length ≤ 30000 := by
 have h1 := (h.c 0 (by omega)).hm
 have h2 := (h.c 1 (by omega)).hm
 have h3 := (h.c 2 (by omega)).hm
 have g1 := (h.c 0 (by omega)).m64
 have g2 := (h.c 1 (by omega)).m64
 have g3 := (h.c 2 (by omega)).m64
 have nn := h.b.nn
 have il := h.b.il
 have bo := h.b.bo
 have hn : s.bk.done.length ≤ 192 := by omega
 refine ⟨hn, by omega, ?_⟩
 have := frames_le (pls := s.its.map It.bytes) fun pl hp => by
  obtain ⟨it, h1, rfl⟩ := List.mem_map.1 hp
  exact (h.b.run.lens it h1).2
 rw [List.length_map] at this
 omega
theorem inv0 : RInv ru0 := by
 have hr : Runs bk0 ru0.its ru0.bk := .boot (by decide) (by decide) .nil
 refine ⟨⟨rfl, rfl, trivial, rfl, by decide, by decide, rfl, rfl, ?_, by decide, hr, Nat.zero_le _, by rfl, ?_, fun _ _ _ _ => rfl, ?_, ?_, fun _ _ => rfl⟩, fun i hi => ⟨rfl, rfl, rfl, rfl, rfl, rfl, rfl, Nat.zero_le _, Nat.zero_le _, Nat.zero_le _, rfl, rfl, rfl, Nat.le_refl _, Nat.zero_le _, ?_, ?_, ⟨trivial, rfl⟩, ⟨by rfl, ?_⟩, ?_⟩⟩
 ·intro v hv
  have : v = 0 := by
   have hv : v ∈ [((0 : Nat) : Int)] := hv
   simpa using hv
  subst this
  exact ⟨by omega, by omega⟩
 ·intro j h hj
  have hj : (List.replicate 65 (⟨0, 0, [], 0⟩ : Hd))[j]? = some h := hj
  rw [List.getElem?_replicate] at hj
  split at hj
  ·cases hj
   exact ⟨by simp, by simp, by simp, by simp, [], trivial, rfl⟩
  ·cases hj
 ·intro k o ho
  have ho : ([] : List Op)[k]? = some o := ho
  simp at ho
 ·intro o ho
  cases ho
 ·intro j e he
  have he : ([] : List Ed)[j]? = some e := he
  simp at he
 ·intro j e he
  have he : ([] : List Mk)[j]? = some e := he
  simp at he
 ·intro c h1 h2 h3
  show (List.replicate 65 (0 : Int))[c]? = some 0
  rw [List.getElem?_replicate, if_pos (by omega)]
 ·refine ⟨⟨0, 0, [], 0⟩, [], [], [], [], ?_, rfl, Int.le_refl _, .nil, .nil, rfl⟩
  show (List.replicate 65 (⟨0, 0, [], 0⟩ : Hd))[i + 1]? = _
  rw [List.getElem?_replicate, if_pos (by omega)]
end Go.Sl
set_option maxRecDepth 100000
namespace Go.Sl
open Go Go.Proofs
variable {G h : Heap} {L R : List Heap} {K : Value → Heap → Prop} {Kp : PK}
/-! The book and the log go on alone. -/
theorem RInv.sync {s : Ru} (h : RInv s) : RInv { s with syn := (frames (s.its.map It.bytes)).length } :=
 ⟨{ h.b with syn := Nat.le_refl _ }, fun i hi => { h.c i hi with }⟩
theorem RInv.boot {s : Ru} (h : RInv s) (hb : s.boots < 100) : RInv s.booted := by
 have hs := h.small
 have b := h.b
 have el := b.el
 have il := b.il
 have ep := b.ep
 refine ⟨⟨b.nn, b.de, b.fitl, b.len, ?_, ?_, ?_, ?_, ?_, ?_, ?_, ?_, b.hl, b.hi, b.rv, b.sq, b.cl, b.hc⟩, fun i hi => { h.c i hi with }⟩
 ·show s.boots + 1 ≤ 100; omega
 ·show s.bk.epoch + 1 = ((s.boots + 1 : Nat) : Int) + 1; omega
 ·show (s.its ++ [_]).length = s.boots + 1 + 1 + s.bk.done.length
  rw [List.length_append, List.length_singleton]; omega
 ·show (s.bk.edited ++ [_]).length = (s.its ++ [_]).length
  rw [List.length_append, List.length_append, el]; rfl
 ·intro v hv
  rcases List.mem_append.1 hv with hv | hv
  ·exact b.ev v hv
  ·rw [List.mem_singleton.1 hv, b.de]
   show 0 ≤ _ ∧ _ ≤ ((s.bk.done.length : Nat) : Int)
   omega
 ·show (s.its ++ [_]).countP isEdit = _
  rw [List.countP_append, b.cn]; rfl
 ·exact b.run.snoc (.boot (by omega) (by omega) .nil)
 ·show s.syn ≤ (frames ((s.its ++ [_]).map It.bytes)).length
  rw [List.map_append, frames_app, List.length_append]
  have := b.syn; omega
/-! A client makes an edit. -/
theorem edo_fit {n : Nat} {o : Op} {c q : Int} (h : EdO n o) (hc : 1 ≤ c ∧ c ≤ 64) (hq : 1 ≤ q ∧ q ≤ 64) : FitP n { o with client := c, seq := q } ∧ o.kind ≠ 0 := by
 rcases h with ⟨pos, ch, rfl, h⟩ | ⟨pos, rfl, h⟩
 ·exact ⟨⟨.inr (.inl ⟨rfl, h.2.2.1, h.2.2.2, h.1, h.2.1⟩), hc, hq⟩, by show (1 : Int) ≠ 0; decide⟩
 ·exact ⟨⟨.inr (.inr ⟨rfl, rfl, h.1, h.2⟩), hc, hq⟩, by show (2 : Int) ≠ 0; decide⟩
theorem CI.off {s t : Ru} {i : Nat} (h : CI s i) (h1 : t.cl i = s.cl i) (h2 : t.mine i = s.mine i) (h3 : t.has = s.has) (h4 : t.down i = s.down i) (h5 : t.bk = s.bk) : CI t i := by
 obtain ⟨a1, a2, a3, a4, a5, a6, a7, a8, a9, b1, b2, b3, b4, b5, b6, b7, b8, b9, c1, c2⟩ := h
 rw [← h1, ← h2, ← h3, ← h4, ← h5] at *
 exact ⟨a1, a2, a3, a4, a5, a6, a7, a8, a9, b1, b2, b3, b4, b5, b6, b7, b8, b9, c1, c2⟩
theorem RInv.edit {s : Ru} (h : RInv s) {i : Nat} {o : Op} (hi : i < 3) (hlt : (s.mine i).length < 64) (ho : EdO (s.cl i).text.length o) : RInv (s.edited i o) := by
 have b := h.b
 refine ⟨⟨b.nn, b.de, b.fitl, b.len, b.bo, b.ep, b.il, b.el, b.ev, b.cn, b.run, b.syn, b.hl, b.hi, b.rv, b.sq, b.cl, b.hc⟩, fun j hj => ?_⟩
 by_cases hji : j ≠ i
 ·exact (h.c j hj).off (upd_ne hji) (upd_ne hji) rfl rfl rfl
 rw [Decidable.not_not] at hji
 subst hji
 have c := h.c j hj
 have md := c.md
 have id := c.id
 have hv := c.hv
 have dn := c.dn
 have hm := c.hm
 have fo := c.fo
 have hfit : FitP (s.cl j).text.length { o with client := (s.cl j).id, seq := (s.cl j).made + 1 } := (edo_fit ho (by omega) (by omega)).1
 have hk := (edo_fit (c := 1) (q := 1) ho (by omega) (by omega)).2
 have e1 : (s.edited j o).cl j = (s.cl j).edited o := upd_self _ _ _
 have e2 : (s.edited j o).mine j = s.mine j ++ [s.edOf j o] := upd_self _ _ _
 have e3 : (s.edited j o).has = s.has := rfl
 have e4 : (s.edited j o).down = s.down := rfl
 have e5 : (s.edited j o).bk = s.bk := rfl
 have ef : (s.cl j).edited o = { s.cl j with made := (s.cl j).made + 1, text := applyD (s.cl j).text (s.edOf j o).op, pend := (s.cl j).pend ++ [s.edOf j o], forms := (s.cl j).forms ++ [⟨(s.cl j).made + 1, (s.edOf j o).op⟩], flast := (s.cl j).made + 1, left := (s.cl j).left ++ [s.edOf j o] } := rfl
 have hop : (s.edOf j o).op = { o with client := (s.cl j).id, seq := (s.cl j).made + 1 } := rfl
 have htag : (s.edOf j o).tag = s.down j := hv
 rw [← hop] at hfit
 have hcl : (s.edOf j o).op.client = j + 1 := id
 have hsq : (s.edOf j o).op.seq = (s.mine j).length + 1 := by show (s.cl j).made + 1 = _; rw [md]
 have hkk : (s.edOf j o).op.kind ≠ 0 := hk
 generalize s.edOf j o = e at *
 have ml : (s.mine j ++ [e]).length = (s.mine j).length + 1 := by simp
 have fl : ((s.cl j).forms ++ [(⟨(s.cl j).made + 1, e.op⟩ : Mk)]).length = (s.cl j).forms.length + 1 := by simp
 have tl := applyD_len1 (s.cl j).text e.op
 have tx := c.tx
 refine ⟨?_, ?_, ?_, ?_, ?_, ?_, ?_, ?_, ?_, ?_, ?_, ?_, ?_, ?_, ?_, ?_, ?_, ?_, ?_, ?_⟩ <;> (try simp only [e1, e2, e3, e4, e5, ef, ml, fl])
 ·exact id
 ·exact c.ep
 ·omega
 ·exact hv
 ·exact c.cu
 ·exact c.ba
 ·exact c.he
 ·omega
 ·omega
 ·exact dn
 ·omega
 ·rw [List.length_append, c.le]; rfl
 ·rw [List.length_append, c.pe]; rfl
 ·omega
 ·omega
 ·intro k x hx
  rcases Nat.lt_or_ge k (s.mine j).length with hk | hk
  ·rw [List.getElem?_append_left hk] at hx; exact c.mi k x hx
  ·have := (List.getElem?_eq_some_iff.1 hx).1
   have hke : k = (s.mine j).length := by omega
   subst hke
   rw [List.getElem?_append_right (by omega)] at hx
   simp only [Nat.sub_self, List.getElem?_cons_zero, Option.some.injEq] at hx
   subst hx
   exact ⟨hcl, hsq, by omega, by omega⟩
 ·intro k x hx
  rcases Nat.lt_or_ge k (s.cl j).forms.length with hk | hk
  ·rw [List.getElem?_append_left hk] at hx
   have := c.fm k x hx
   exact ⟨this.1, this.2.1, by omega⟩
  ·have := (List.getElem?_eq_some_iff.1 hx).1
   have hke : k = (s.cl j).forms.length := by omega
   subst hke
   rw [List.getElem?_append_right (by omega)] at hx
   simp only [Nat.sub_self, List.getElem?_cons_zero, Option.some.injEq] at hx
   subst hx
   exact ⟨hcl, by simp only; omega, by simp only; omega⟩
 ·rw [List.map_append, List.map_cons, List.map_nil]
  refine ⟨FitL_app.2 ⟨c.ft.1, ?_⟩, ?_⟩
  ·rw [c.ft.2]; exact ⟨hfit, trivial⟩
  ·rw [applyL_app, c.ft.2]; rfl
 ·exact c.la
 ·obtain ⟨hd, ds, qf, Tf, outs, g1, g2, g3, g4, g5, g6⟩ := c.hd
  have of := g5.outs_fit
  have om := g5.marks
  refine ⟨hd, ds ++ [(sstep qf e).1], (sstep qf e).2, applyD Tf (sstep qf e).1, (outs.map (·.1)).zip (pst e.op (outs.map (·.2)) true).2, g1, g2, g3, ?_, ?_, ?_⟩
  ·rw [List.drop_append_of_le_length hm]
   refine g4.snoc ?_ ⟨by omega, fun x hx => ?_⟩ hkk hfit ?_ ?_
   ·rw [List.length_drop, hsq]; omega
   ·obtain ⟨k, hk⟩ := List.mem_iff_getElem?.1 (List.mem_of_mem_drop hx)
    have := (c.mi k x hk).2.2
    omega
   ·rw [htag, ← g6]; exact of.1
   ·rw [htag, ← g6]; exact of.2
  ·have h1 := g5.snoc hfit
   rw [List.map_append, List.map_cons, List.map_nil]
   have e6 : (sstep qf e).1 = (pst e.op (outs.map (·.2)) true).1 := by unfold sstep; rw [htag, ← g6]
   rw [e6]
   exact h1
  ·have e6 : (sstep qf e).2 = (outs.map (·.1)).zip (pst e.op (outs.map (·.2)) true).2 := by unfold sstep; rw [htag, ← g6]
   rw [e6]
   refine (dropT_all fun m hm => ?_).symm
   have h1 := (List.of_mem_zip (show (m.1, m.2) ∈ _ from hm)).1
   obtain ⟨y, hy, h2⟩ := List.mem_map.1 h1
   have := om.1 y hy
   omega
end Go.Sl
set_option maxRecDepth 100000
namespace Go.Sl
open Go Go.Proofs
variable {G h : Heap} {L R : List Heap} {K : Value → Heap → Prop} {Kp : PK}
/-- What lies before a client's next edit. -/
structure Look (s : Ru) (i : Nat) (e : Ed) (hd : Hd) (X : List Elm) : Prop where
 hn : s.bk.hands[i + 1]? = some hd
 hs : hd.seq = s.has i
 tg : hd.tag ≤ e.tag
 no : e.op.kind ≠ 0
 sq : e.op.seq = hd.seq + 1
 cl : e.op.client = i + 1
 t0 : 0 ≤ e.tag ∧ e.tag ≤ s.down i
 fp : FitP X.length e.op
 fl : FitL X ((dropM e.tag hd.q).map (·.op))
 ap : applyL X ((dropM e.tag hd.q).map (·.op)) = replayD s.bk.done
 rest : ∃ ds qf Tf outs, SSim (prs (hd.taken e).q) e.tag (hd.seq + 1) (replayD (s.bk.done ++ [(hd.step e).1])) ((s.mine i).drop (s.has i + 1)) ds qf Tf ∧
  CSim (i + 1) (s.down i) ((s.cl i).forms.map (·.op)) (s.cl i).text (s.bk.done.drop (s.down i)) ((hd.step e).1 :: ds) Tf outs ∧ outs = dropT (s.down i) qf
theorem RInv.look {s : Ru} (h : RInv s) {i : Nat} {e : Ed} (hi : i < 3) (he : (s.mine i)[s.has i]? = some e) : ∃ hd X, Look s i e hd X := by
 have c := h.c i hi
 obtain ⟨hd, ds, qf, Tf, outs, g1, g2, g3, g4, g5, g6⟩ := c.hd
 have hlt := (List.getElem?_eq_some_iff.1 he).1
 have hdr : (s.mine i).drop (s.has i) = e :: (s.mine i).drop (s.has i + 1) := by
  rw [List.drop_eq_getElem_cons hlt]
  have := (List.getElem?_eq_some_iff.1 he).2
  rw [this]
 rw [hdr] at g4
 have hm := c.mi _ _ he
 cases g4 with
 | cons X h1 h2 h3 h4 h5 h6 h7 =>
  rw [dropT_prs, prs_ops] at h5 h6
  rw [sstep_prs] at h7 g5
  simp only at h7 g5
  exact ⟨hd, X, ⟨g1, g2, h2, h3, h1, hm.1, hm.2.2, h4, h5, h6, _, qf, Tf, outs, by rw [replayD_snoc]; exact h7, g5, g6⟩⟩
theorem Look.xl {s : Ru} {i : Nat} {e : Ed} {hd : Hd} {X : List Elm} (k : Look s i e hd X) (h : RInv s) : (X.length : Int) = (replayD s.bk.done).length - sumG ((dropM e.tag hd.q).map (·.op)) ∧ X.length ≤ 400 ∧ hd.q.length ≤ 192 := by
 have h1 := k.fl.len
 rw [k.ap] at h1
 have h2 := sumG_le ((dropM e.tag hd.q).map (·.op))
 have h3 := (h.b.hi _ _ k.hn).ql
 have h4 := h.small.1
 have h5 := dropM_len e.tag hd.q
 have h6 := replayD_le s.bk.done
 rw [List.length_map] at h2
 omega
theorem Look.dn {s : Ru} {i : Nat} {e : Ed} {hd : Hd} {X : List Elm} (k : Look s i e hd X) : FitP (replayD s.bk.done).length (hd.step e).1 := by
 have h1 := (past_ok (f := true) k.fp k.fl).1
 rw [k.ap] at h1
 unfold Hd.step; rw [past_pst]; exact h1
theorem Look.who {s : Ru} {i : Nat} {e : Ed} {hd : Hd} {X : List Elm} (k : Look s i e hd X) : (hd.step e).1.client = i + 1 ∧ (hd.step e).1.seq = s.has i + 1 := by
 have := pst_who1 true ((dropM e.tag hd.q).map (·.op)) e.op
 unfold Hd.step; rw [past_pst, this.1, this.2, k.cl, k.sq, k.hs]
 exact ⟨rfl, rfl⟩
theorem Look.can {s : Ru} {i : Nat} {e : Ed} {hd : Hd} {X : List Elm} (k : Look s i e hd X) (h : RInv s) (hi : i < 3) : s.bk.Can e hd := by
 have hx := k.xl h
 have hs := h.small
 have ep := h.b.ep
 have cl := k.cl
 have sq := k.sq
 have ks := k.hs
 have dn := (h.c i hi).dn
 have hm := (h.c i hi).hm
 have m64 := (h.c i hi).m64
 have t0 := k.t0
 have de := h.b.de
 have ln := h.b.len
 have rl := replayD_le s.bk.done
 have hh := h.b.hi _ _ k.hn
 have ecl : e.op.client.toNat = i + 1 := by omega
 refine ⟨by omega, k.fp.valid (by omega), k.fp.ch, by omega, k.no, ?_, by rw [ecl]; exact k.hn, sq, by omega, ⟨k.tg, by omega⟩, ?_, by omega, by omega, ?_⟩
 ·rw [cl, sq, ks]; exact h.b.rv i hi _ (by omega)
 ·rw [ckN_eq hh.pw, ln, ← hx.1]; exact k.fp.fits (by omega)
 ·intro l hl
  obtain ⟨Z, z1, z2⟩ := hh.fit
  have h1 := (z1.mem l hl).pos
  have h2 := z1.len
  rw [z2] at h2
  have h3 := sumG_le (hd.q.map (·.op))
  rw [List.length_map] at h1 h3
  omega
theorem Look.tak {s : Ru} {i : Nat} {e : Ed} {hd : Hd} {X : List Elm} (k : Look s i e hd X) (h : RInv s) (hi : i < 3) : s.bk.Tak e hd := by
 have hx := k.xl h
 have hs := h.small
 have c := k.can h hi
 have de := h.b.de
 have el := h.b.el
 have rl := replayD_le s.bk.done
 have hp := k.fp.pos
 refine ⟨c.va, c.ch, by omega, c.cl, c.hn, fun j hj e1 => ?_, ?_, k.dn.mono (by omega), by omega, by omega, by omega, c.ln⟩
 ·have := h.b.hi j hj e1
  have h1 := this.ql
  have h2 := this.la
  rw [de]; omega
 ·intro l hl
  refine c.qp l ?_
  obtain ⟨m, h1, rfl⟩ := List.mem_map.1 hl
  exact List.mem_map_of_mem ((List.dropWhile_sublist _).subset h1)
theorem RInv.upOk {s : Ru} (h : RInv s) {i : Nat} (hi : i < 3) (hlt : s.has i < (s.mine i).length) : ∃ e hd, UpOk s i e hd := by
 have he : (s.mine i)[s.has i]? = some ((s.mine i)[s.has i]'hlt) := List.getElem?_eq_getElem _
 generalize (s.mine i)[s.has i]'hlt = e at he
 obtain ⟨hd, X, k⟩ := h.look hi he
 have hx := k.xl h
 have hs := h.small
 have t0 := k.t0
 have dn := (h.c i hi).dn
 have de := h.b.de
 refine ⟨e, hd, he, k.can h hi, k.tak h hi, by omega, k.fp.mono (by omega), by omega, de.symm, by omega, by omega, ?_, h.b.cn⟩
 refine FitL.fit (FitL_app.2 ⟨h.b.fitl, k.dn, trivial⟩) (by rw [List.length_append, List.length_singleton]; omega)
theorem UpOk.look {s : Ru} {i : Nat} {e : Ed} {hd : Hd} (h : RInv s) (hi : i < 3) (ok : UpOk s i e hd) : ∃ X, Look s i e hd X := by
 obtain ⟨hd2, X, k⟩ := h.look hi ok.he
 have h1 := ok.can.hn
 have cl := k.cl
 rw [show e.op.client.toNat = i + 1 by omega, k.hn] at h1
 cases h1
 exact ⟨X, k⟩
theorem RInv.up {s : Ru} (h : RInv s) {i : Nat} {e : Ed} {hd : Hd} (hi : i < 3) (hlt : s.has i < (s.mine i).length) (ok : UpOk s i e hd) : RInv (s.upped i e hd) := by
 obtain ⟨X, k⟩ := ok.look h hi
 have b := h.b
 have hs := h.small
 have who := k.who
 have dnf := k.dn
 have cl := k.cl
 have sq := k.sq
 have ks := k.hs
 have de := b.de
 have hcl : e.op.client.toNat = i + 1 := by omega
 have e0 : (s.upped i e hd).bk.done = s.bk.done ++ [(hd.step e).1] := rfl
 have e1 : (s.upped i e hd).its = s.its ++ [.edit e] := rfl
 have e2 : (s.upped i e hd).has = upd s.has i (s.has i + 1) := rfl
 have e3 : ∀ j, (s.upped i e hd).bk.hands[j]? = ((s.bk.hands.set (i + 1) (hd.taken e))[j]?).map fun h => if j < 65 ∧ j ≠ i + 1 then keepH ((s.bk.done.length + 1 : Nat) : Int) (hd.step e).1 h else h := fun j => by
  show (kH ((s.bk.edits.length + 1 : Nat) : Int) (hd.step e).1 e.op.client.toNat 65 (s.bk.hands.set e.op.client.toNat (hd.taken e)))[j]? = _
  rw [kH_get, hcl, de]
 have hlen := b.hl
 have eh1 : (s.upped i e hd).bk.hands[i + 1]? = some (hd.taken e) := by
  rw [e3, List.getElem?_set_self (by omega)]
  simp
 have eh2 : ∀ j, j ≠ i + 1 → (s.upped i e hd).bk.hands[j]? = (s.bk.hands[j]?).map (keepH ((s.bk.done.length + 1 : Nat) : Int) (hd.step e).1) := fun j hj => by
  rw [e3, List.getElem?_set_ne (Ne.symm hj)]
  rcases Nat.lt_or_ge j 65 with h65 | h65
  ·simp [h65, hj]
  ·rw [List.getElem?_eq_none (by omega)]; rfl
 have hup : ∀ j, upd s.has i (s.has i + 1) j = s.has j + if j = i then 1 else 0 := fun j => by
  by_cases hji : j = i
  ·subst hji; rw [upd_self, if_pos rfl]
  ·rw [upd_ne hji, if_neg hji]; rfl
 have hN : (s.bk.done ++ [(hd.step e).1]).length = s.bk.done.length + 1 := by simp
 refine ⟨⟨?_, ?_, ?_, ?_, b.bo, b.ep, ?_, ?_, ?_, ?_, ?_, ?_, ?_, ?_, ?_, ?_, ?_, ?_⟩, fun j hj => ?_⟩
 ·rw [e0, hN, e2, hup, hup, hup, b.nn]
  have : i = 0 ∨ i = 1 ∨ i = 2 := by omega
  rcases this with rfl | rfl | rfl <;> simp <;> omega
 ·show (s.bk.edits ++ [e]).length = _
  rw [e0, hN, List.length_append, List.length_singleton, de]
 ·rw [e0]; exact FitL_app.2 ⟨b.fitl, dnf, trivial⟩
 ·show s.bk.length + gr (hd.step e).1 = _
  rw [e0, replayD_snoc, dnf.len, b.len]
 ·rw [e0, e1, hN, List.length_append, List.length_singleton, b.il]; rfl
 ·show (s.bk.edited ++ [_]).length = _
  rw [e1, List.length_append, List.length_append, b.el]; rfl
 ·intro v hv
  rw [e0, hN]
  rcases List.mem_append.1 (show v ∈ s.bk.edited ++ [((s.bk.edits.length + 1 : Nat) : Int)] from hv) with hv | hv
  ·have := b.ev v hv; omega
  ·rw [List.mem_singleton.1 hv, de]; omega
 ·rw [e0, e1, hN, List.countP_append, b.cn]; rfl
 ·rw [e1]; exact b.run.snoc (.edit ok.can ok.tak ok.tg ok.fp .nil)
 ·rw [e1, List.map_append, frames_app, List.length_append]
  show s.syn ≤ _
  have := b.syn; omega
 ·show (kH _ _ _ _ (s.bk.hands.set _ _)).length = 65
  rw [kH_len, List.length_set]; exact hlen
 ·intro j x hx
  rw [e0, hN, replayD_snoc]
  by_cases hj : j = i + 1
  ·subst hj
   rw [eh1] at hx
   cases hx
   exact (b.hi _ _ k.hn).taken k.fp k.fl k.ap
  ·rw [eh2 j hj] at hx
   obtain ⟨y, hy, rfl⟩ := Option.map_eq_some_iff.1 hx
   exact (b.hi _ _ hy).push dnf
 ·intro j hj q hq
  rw [e2, hup] at hq
  show (if ((j : Int) + 1, q) = (e.op.client, e.op.seq) then _ else s.bk.revs ((j : Int) + 1, q)) = none
  rw [if_neg]
  ·exact b.rv j hj q (by omega)
  ·intro he
   rw [Prod.mk.injEq, cl, sq, ks] at he
   have : j = i := by omega
   subst this
   rw [if_pos rfl] at hq
   omega
 ·intro n o ho
  rw [e0] at ho ⊢
  rcases Nat.lt_or_ge n s.bk.done.length with hk | hk
  ·rw [List.getElem?_append_left hk] at ho
   rw [List.take_append_of_le_length (by omega)]
   exact b.sq n o ho
  ·have := (List.getElem?_eq_some_iff.1 ho).1
   have hke : n = s.bk.done.length := by omega
   subst hke
   rw [List.getElem?_append_right (by omega)] at ho
   simp only [Nat.sub_self, List.getElem?_cons_zero, Option.some.injEq] at ho
   subst ho
   rw [List.take_append_of_le_length (by omega), List.take_length, who.1, who.2, b.hc i hi]
 ·intro o ho
  rw [e0] at ho
  rcases List.mem_append.1 ho with ho | ho
  ·exact b.cl o ho
  ·rw [List.mem_singleton.1 ho, who.1]; omega
 ·intro j hj
  rw [e0, cntC_snoc, b.hc j hj, e2, hup, who.1]
  by_cases hji : j = i
  ·subst hji; rw [if_pos rfl, if_pos rfl]
  ·rw [if_neg hji, if_neg (by omega)]
 have c := h.c j hj
 have dn := c.dn
 have tk : (s.bk.done ++ [(hd.step e).1]).take (s.down j) = s.bk.done.take (s.down j) := List.take_append_of_le_length dn
 have hm := c.hm
 refine ⟨c.id, c.ep, c.md, c.hv, c.cu, c.ba, c.he, c.m64, ?_, ?_, c.fl, c.le, c.pe, c.fo, c.tx, c.mi, c.fm, ?_, ?_, ?_⟩
 ·rw [e2, hup]
  show _ ≤ (s.mine j).length
  by_cases hji : j = i
  ·subst hji; rw [if_pos rfl]; omega
  ·rw [if_neg hji]; omega
 ·rw [e0, hN]; show s.down j ≤ _; omega
 ·rw [e0]; show FitL (replayD ((s.bk.done ++ [(hd.step e).1]).take (s.down j))) _ ∧ applyL (replayD ((s.bk.done ++ [(hd.step e).1]).take (s.down j))) _ = _
  rw [tk]; exact c.ft
 ·rw [e0]
  show _ ∧ ∀ c : Nat, 1 ≤ c → c ≤ 3 → c ≠ j + 1 → (s.cl j).last[c]? = some (cntC c ((s.bk.done ++ [(hd.step e).1]).take (s.down j)) : Int)
  rw [tk]; exact c.la
 ·rw [e0]
  have dr : (s.bk.done ++ [(hd.step e).1]).drop (s.down j) = s.bk.done.drop (s.down j) ++ [(hd.step e).1] := List.drop_append_of_le_length dn
  show ∃ hd' ds qf Tf outs, (s.upped i e hd).bk.hands[j + 1]? = some hd' ∧ hd'.seq = (((s.upped i e hd).has j : Nat) : Int) ∧ hd'.tag ≤ s.down j ∧
   SSim (prs hd'.q) hd'.tag hd'.seq (replayD (s.bk.done ++ [(hd.step e).1])) ((s.mine j).drop ((s.upped i e hd).has j)) ds qf Tf ∧
   CSim (j + 1) (s.down j) ((s.cl j).forms.map (·.op)) (s.cl j).text ((s.bk.done ++ [(hd.step e).1]).drop (s.down j)) ds Tf outs ∧ outs = dropT (s.down j) qf
  rw [dr, e2, hup]
  by_cases hji : j = i
  ·subst hji
   obtain ⟨ds, qf, Tf, outs, r1, r2, r3⟩ := k.rest
   rw [if_pos rfl]
   have t0 := k.t0
   refine ⟨hd.taken e, ds, qf, Tf, outs, eh1, by show e.op.seq = _; rw [sq, ks]; rfl, t0.2, ?_, r2.pushOwn who.1, r3⟩
   have : (hd.taken e).seq = hd.seq + 1 := sq
   rw [this]
   exact r1
  ·obtain ⟨hd2, ds, qf, Tf, outs, g1, g2, g3, g4, g5, g6⟩ := c.hd
   rw [if_neg hji]
   have hfl := g4.fitl
   have hpk := past_ok (f := false) dnf hfl.1
   rw [hfl.2] at hpk
   have hrl : (s.bk.done.drop (s.down j)).length = s.bk.done.length - s.down j := List.length_drop
   have hmk : (s.down j : Int) + (s.bk.done.drop (s.down j)).length + 1 = ((s.bk.done.length + 1 : Nat) : Int) := by rw [hrl]; omega
   refine ⟨keepH ((s.bk.done.length + 1 : Nat) : Int) (hd.step e).1 hd2, (pst (hd.step e).1 ds false).2, qf ++ [(((s.bk.done.length + 1 : Nat) : Int), (pst (hd.step e).1 ds false).1)], applyD Tf (pst (hd.step e).1 ds false).1, outs ++ [(((s.bk.done.length + 1 : Nat) : Int), (pst (hd.step e).1 ds false).1)], ?_, g2, g3, ?_, ?_, ?_⟩
   ·rw [eh2 _ (by omega), g1]; rfl
   ·rw [replayD_snoc]
    have eq : prs (keepH ((s.bk.done.length + 1 : Nat) : Int) (hd.step e).1 hd2).q = prs hd2.q ++ [(((s.bk.done.length + 1 : Nat) : Int), (hd.step e).1)] := by simp [prs, keepH]
    rw [eq]
    refine g4.push (fun x hx => ?_) dnf
    obtain ⟨n, hn⟩ := List.mem_iff_getElem?.1 (List.mem_of_mem_drop hx)
    have := (c.mi n x hn).2.2
    omega
   ·rw [← hmk]
    exact g5.push (by rw [who.1]; omega) hpk.1
   ·rw [dropT_app (by simp only; omega), g6]
end Go.Sl
set_option maxRecDepth 100000
namespace Go.Sl
open Go Go.Proofs
variable {G h : Heap} {L R : List Heap} {K : Value → Heap → Prop} {Kp : PK}
/-- What lies before a client's next record. -/
structure RecOk (s : Ru) (i : Nat) (o : Op) : Prop where
 ho : s.bk.done[s.down i]? = some o
 own : o.client = i + 1 → ∃ m rest, (s.cl i).forms = m :: rest ∧ m.op = o
 other : o.client ≠ i + 1 → FitP (s.cl i).text.length (pst o ((s.cl i).forms.map (·.op)) false).1
 acc : (s.cl i).Acc o
 fit : FitP (replayD (s.bk.done.take (s.down i))).length o
theorem RInv.recd {s : Ru} (h : RInv s) {i : Nat} {o : Op} (hi : i < 3) (ho : s.bk.done[s.down i]? = some o) : RecOk s i o := by
 have c := h.c i hi
 have b := h.b
 have hs := h.small
 obtain ⟨hd, ds, qf, Tf, outs, g1, g2, g3, g4, g5, g6⟩ := c.hd
 have hlt := (List.getElem?_eq_some_iff.1 ho).1
 have hdr : s.bk.done.drop (s.down i) = o :: s.bk.done.drop (s.down i + 1) := by
  rw [List.drop_eq_getElem_cons hlt]
  have := (List.getElem?_eq_some_iff.1 ho).2
  rw [this]
 have hfit : FitP (replayD (s.bk.done.take (s.down i))).length o := b.fitl.at ho
 have hrl := replayD_len s.bk.done (s.down i)
 have m64 := c.m64
 have fo := c.fo
 have tx := c.tx
 have pe := c.pe
 have id := c.id
 have own : o.client = i + 1 → ∃ m rest, (s.cl i).forms = m :: rest ∧ m.op = o := fun e => by
  rw [hdr] at g5
  generalize hF : (s.cl i).forms = F at g5
  cases F with
  | nil => cases g5 with | other h _ _ => exact absurd e h
  | cons m rest =>
   refine ⟨m, rest, rfl, ?_⟩
   generalize hX : (m :: rest).map (·.op) = Y at g5
   cases g5 with
   | other h _ _ => exact absurd e h
   | own _ _ => rw [List.map_cons] at hX; cases hX; rfl
 have other : o.client ≠ i + 1 → FitP (s.cl i).text.length (pst o ((s.cl i).forms.map (·.op)) false).1 := fun e => by
  have := (past_ok (f := false) hfit c.ft.1).1
  rwa [c.ft.2] at this
 refine ⟨ho, own, other, ⟨by omega, by omega, by omega, fun l hl => ?_, hfit.mono (by omega), fun e => ?_, fun e => ⟨?_, ?_⟩⟩, hfit⟩
 ·have := (c.ft.1.mem l hl).pos
  rw [List.length_map] at this
  omega
 ·rw [id] at e
  obtain ⟨m, rest, h1, h2⟩ := own e
  refine ⟨⟨m.mark, rest, by rw [h1, ← h2]⟩, ?_⟩
  intro h0
  rw [h0, h1] at pe
  simp at pe
 ·rw [id] at e
  have hcl := b.cl o (List.mem_of_getElem? ho)
  have h1 := b.sq _ _ ho
  have h2 := c.la.2 o.client.toNat (by omega) (by omega) (by omega)
  rw [h2, h1]
  have : ((o.client.toNat : Nat) : Int) = o.client := by omega
  rw [this]; congr 1; omega
 ·rw [id] at e
  rw [past_pst]; exact other e
theorem RInv.downOk {s : Ru} (h : RInv s) {i : Nat} (hi : i < 3) (hlt : s.down i < s.bk.done.length) : ∃ o, DownOk s i o := by
 have ho : s.bk.done[s.down i]? = some (s.bk.done[s.down i]'hlt) := List.getElem?_eq_getElem _
 generalize s.bk.done[s.down i]'hlt = o at ho
 have r := h.recd hi ho
 have c := h.c i hi
 have hs := h.small
 have hv := c.hv
 exact ⟨o, ho, r.acc, c.he, c.cu, c.ba, c.ep, c.id, by omega, by omega, by omega⟩
theorem RInv.down {s : Ru} (h : RInv s) {i : Nat} {o : Op} (hi : i < 3) (ho : s.bk.done[s.down i]? = some o) : RInv (s.downed i o) := by
 have b := h.b
 have r := h.recd hi ho
 refine ⟨⟨b.nn, b.de, b.fitl, b.len, b.bo, b.ep, b.il, b.el, b.ev, b.cn, b.run, b.syn, b.hl, b.hi, b.rv, b.sq, b.cl, b.hc⟩, fun j hj => ?_⟩
 by_cases hji : j ≠ i
 ·exact (h.c j hj).off (upd_ne hji) rfl rfl (upd_ne hji) rfl
 rw [Decidable.not_not] at hji
 subst hji
 have c := h.c j hj
 have hs := h.small
 have hlt := (List.getElem?_eq_some_iff.1 ho).1
 have hdr : s.bk.done.drop (s.down j) = o :: s.bk.done.drop (s.down j + 1) := by
  rw [List.drop_eq_getElem_cons hlt]
  have := (List.getElem?_eq_some_iff.1 ho).2
  rw [this]
 have htk := take_snoc ho
 obtain ⟨hd, ds, qf, Tf, outs, g1, g2, g3, g4, g5, g6⟩ := c.hd
 rw [hdr] at g5
 have e1 : (s.downed j o).cl j = (s.cl j).recvd o := upd_self _ _ _
 have e2 : (s.downed j o).mine = s.mine := rfl
 have e3 : (s.downed j o).has = s.has := rfl
 have e4 : (s.downed j o).down j = s.down j + 1 := upd_self _ _ _
 have e5 : (s.downed j o).bk = s.bk := rfl
 have id := c.id
 have hv := c.hv
 have cu := c.cu
 have tx := c.tx
 have fo := c.fo
 have pe := c.pe
 have hcl := b.cl o (List.mem_of_getElem? ho)
 have hseq := b.sq _ _ ho
 have mi : ∀ (k : Nat) (e : Ed), (s.mine j)[k]? = some e → e.op.client = j + 1 ∧ e.op.seq = k + 1 ∧ 0 ≤ e.tag ∧ e.tag ≤ ((s.down j + 1 : Nat) : Int) := fun k e he => by
  have := c.mi k e he
  exact ⟨this.1, this.2.1, this.2.2.1, by omega⟩
 by_cases hown : o.client = j + 1
 ·obtain ⟨m, rest, hf, hm⟩ := r.own hown
  have ef : (s.cl j).recvd o = { s.cl j with cum := (s.cl j).cum + 1, held := none, have_ := (s.cl j).have_ + 1, pend := (s.cl j).pend.drop 1, forms := rest } := by
   unfold Cl.recvd
   rw [if_pos (by rw [id]; exact hown)]
   have hd2 : dropM o.seq (s.cl j).forms = rest := by
    have f0 := c.fm 0 m (by rw [hf]; rfl)
    rw [hf]
    refine (dropM_eq (n := 1) (by simp) (fun k x hk hx => ?_) (fun x hx => ?_)).trans rfl
    ·have : k = 0 := by omega
     subst this
     cases hx
     rw [← hm, f0.2.1]; exact Int.le_refl _
    ·have f1 := c.fm 1 x (by rw [hf]; exact hx)
     rw [← hm, f0.2.1]
     omega
   rw [hd2]
  have hfl : (s.cl j).forms.length = rest.length + 1 := by rw [hf]; rfl
  have g5' : CSim (j + 1) (((s.down j + 1 : Nat) : Int)) (rest.map (·.op)) (s.cl j).text (s.bk.done.drop (s.down j + 1)) ds Tf outs := by
   rw [hf, List.map_cons, hm] at g5
   cases g5 with
   | own _ h => exact h
   | other h _ _ => exact absurd hown h
  refine ⟨?_, ?_, ?_, ?_, ?_, ?_, ?_, ?_, ?_, ?_, ?_, ?_, ?_, ?_, ?_, ?_, ?_, ?_, ?_, ?_⟩ <;> (try simp only [e1, e2, e3, e4, e5, ef])
  ·exact id
  ·exact c.ep
  ·exact c.md
  ·omega
  ·omega
  ·exact c.ba
  ·exact c.m64
  ·exact c.hm
  ·omega
  ·exact c.fl
  ·exact c.le
  ·rw [List.length_drop]; omega
  ·omega
  ·omega
  ·exact mi
  ·intro k x hx
   have := c.fm (k + 1) x (by rw [hf]; exact hx)
   exact ⟨this.1, this.2.1, by omega⟩
  ·have ft := c.ft
   rw [hf, List.map_cons, hm] at ft
   rw [replayD_succ ho]
   exact ⟨ft.1.2, ft.2⟩
  ·refine ⟨c.la.1, fun k k1 k2 k3 => ?_⟩
   rw [c.la.2 k k1 k2 k3, htk, cntC_snoc, if_neg (by omega)]; rfl
  ·refine ⟨hd, ds, qf, Tf, outs, g1, g2, by omega, g4, g5', ?_⟩
   have om := g5'.marks
   have : dropT ((s.down j : Int) + 1) qf = outs := by
    rw [← dropT_succ, ← g6]
    exact dropT_all om.1
   exact this.symm
 ·have hpl : (pst o ((s.cl j).forms.map (·.op)) false).2.length = (s.cl j).forms.length := by rw [pst_len, List.length_map]
  have ef : (s.cl j).recvd o = { s.cl j with cum := (s.cl j).cum + 1, held := none, have_ := (s.cl j).have_ + 1, last := (s.cl j).last.set o.client.toNat o.seq, forms := remk (s.cl j).forms (pst o ((s.cl j).forms.map (·.op)) false).2, text := applyD (s.cl j).text (pst o ((s.cl j).forms.map (·.op)) false).1 } := by
   unfold Cl.recvd
   rw [if_neg (by rw [id]; exact hown), past_pst]
  have hrm := remk_marks hpl
  have hro := remk_ops hpl
  have hrl : (remk (s.cl j).forms (pst o ((s.cl j).forms.map (·.op)) false).2).length = (s.cl j).forms.length := by
   have := congrArg List.length hrm
   simpa using this
  have hw := pst_who2 false ((s.cl j).forms.map (·.op)) o
  have htl := applyD_len1 (s.cl j).text (pst o ((s.cl j).forms.map (·.op)) false).1
  have hpk := past_ok (f := false) r.fit c.ft.1
  generalize hgx : remk (s.cl j).forms (pst o ((s.cl j).forms.map (·.op)) false).2 = fs at *
  refine ⟨?_, ?_, ?_, ?_, ?_, ?_, ?_, ?_, ?_, ?_, ?_, ?_, ?_, ?_, ?_, ?_, ?_, ?_, ?_, ?_⟩ <;> (try simp only [e1, e2, e3, e4, e5, ef])
  ·exact id
  ·exact c.ep
  ·exact c.md
  ·omega
  ·omega
  ·exact c.ba
  ·exact c.m64
  ·exact c.hm
  ·omega
  ·exact c.fl
  ·exact c.le
  ·omega
  ·omega
  ·omega
  ·exact mi
  ·intro k x hx
   have hk := (List.getElem?_eq_some_iff.1 hx).1
   have hy : (s.cl j).forms[k]? = some ((s.cl j).forms[k]'(by omega)) := List.getElem?_eq_getElem _
   generalize (s.cl j).forms[k]'(by omega) = y at hy
   have := c.fm k y hy
   have h1 : x.mark = y.mark := by
    have := congrArg (·[k]?) hrm
    simpa [List.getElem?_map, hx, hy] using this
   have h2 : x.op.client = y.op.client ∧ x.op.seq = y.op.seq := by
    rw [← hro] at hw
    have := congrArg (·[k]?) hw
    simpa [List.getElem?_map, hx, hy] using this
   rw [h2.1, h2.2, h1]
   exact ⟨this.1, this.2.1, by omega⟩
  ·rw [replayD_succ ho, hro]
   refine ⟨hpk.2.1, ?_⟩
   rw [hpk.2.2, c.ft.2]
  ·refine ⟨by rw [List.length_set]; exact c.la.1, fun k k1 k2 k3 => ?_⟩
   have hl65 := c.la.1
   rw [htk, cntC_snoc]
   by_cases hk : k = o.client.toNat
   ·subst hk
    rw [List.getElem?_set_self (by omega), if_pos (by omega), hseq]
    have : ((o.client.toNat : Nat) : Int) = o.client := by omega
    rw [this]; rfl
   ·rw [List.getElem?_set_ne (Ne.symm hk), if_neg (by omega)]
    exact c.la.2 k k1 k2 k3
  ·generalize hF : (s.cl j).forms.map (·.op) = F at g5
   cases g5 with
   | own h _ => exact absurd h hown
   | @other _ _ _ _ _ _ _ outs' _ _ h3 =>
    refine ⟨hd, ds, qf, Tf, outs', g1, g2, by omega, g4, by rw [hro, hF]; exact h3, ?_⟩
    have om := h3.marks
    have : dropT ((s.down j : Int) + 1) qf = outs' := by
     rw [← dropT_succ, ← g6]
     show dropT _ (((s.down j : Int) + 1, _) :: outs') = outs'
     have e9 : ∀ x, dropT ((s.down j : Int) + 1) (((s.down j : Int) + 1, x) :: outs') = dropT ((s.down j : Int) + 1) outs' := fun x => by
      unfold dropT; rw [List.dropWhile_cons]; simp
     rw [e9]
     exact dropT_all om.1
    exact this.symm
theorem RInv.good {s : Ru} (h : RInv s) : Good s := by
 have hs := h.small
 have b := h.b
 have ep := b.ep
 have il := b.il
 have el := b.el
 have bo := b.bo
 refine ⟨fun i hi => (h.c i hi).m64, fun i hi hlt => ?_, fun i hi => ?_, fun i hi hlt => h.upOk hi hlt, fun i hi hlt => h.downOk hi hlt, fun hb => ?_, ?_⟩
 ·have c := h.c i hi
  have tx := c.tx
  have dn := c.dn
  have md := c.md
  have fl := c.fl
  have fo := c.fo
  have le := c.le
  have pe := c.pe
  have id := c.id
  have e := c.ep
  exact ⟨by omega, by omega, by omega, by omega, by omega, by omega, by omega, by omega⟩
 ·have c := h.c i hi
  have tx := c.tx
  have dn := c.dn
  have m := c.m64
  omega
 ·exact ⟨by omega, by omega, by omega, by omega, by omega, b.cn⟩
 ·refine ⟨by omega, by omega, b.syn, el, fun v hv => ?_⟩
  have := b.ev v hv
  omega
theorem RInv.step {s t : Ru} (h : RInv s) (ht : Stp3 s t) : RInv t := by
 cases ht with
 | none => exact h
 | edit i o h1 h2 h3 => exact h.edit h1 h2 h3
 | up i e hd h1 h2 h3 => exact h.up h1 h2 h3
 | down i o h1 h2 h3 => exact h.down h1 h3.ho
 | boot h1 => exact h.boot h1
 | sync => exact h.sync
theorem rinvs : Invs RInv where
 z := inv0
 st _ _ h ht := h.step ht
 gd _ h := h.good
 run _ h := h.b.run
 il s h := by have := h.small; omega
 fr s h := by have := h.small; omega
 de _ h := h.b.de.symm
 ed s h := by have := h.small; have := h.b.de; omega
 fit s h := h.b.fitl.fit (by have := h.small; omega)
end Go.Sl
set_option maxRecDepth 100000
namespace Go.Sl
open Go Go.Proofs
variable {G h : Heap} {L R : List Heap} {K : Value → Heap → Prop} {Kp : PK}
/-- What can be read of a run, wherever it is owned. -/
structure RView (p : Option Addr) (s : Ru) (c : Heap) (r : Nat) (d : Option Addr) (dc1 : Option Addr) (dc3 : Nat) (dn1 : Option Addr) (dn3 : Nat) (en rv : Hdr) (hds : List Hdr) : Prop where
 hp : p = some ⟨r, 0, none⟩
 disk : ∀ {G h : Heap} {L : List Heap}, Own G h L → c ∈ L → hcell (rd G h) ⟨r, 0 + 3, none⟩ = some (.pointer d)
 docs : ∀ {G h : Heap} {L : List Heap}, Own G h L → c ∈ L → hcell (rd G h) ⟨r, 0 + 14, none⟩ = some (.slice dc1 (s.bk.done.length + 1) dc3)
 done : ∀ {G h : Heap} {L : List Heap}, Own G h L → c ∈ L → hcell (rd G h) ⟨r, 0 + 15, none⟩ = some (.slice dn1 s.bk.done.length dn3)
 ends : ∀ {G h : Heap} {L : List Heap}, Own G h L → c ∈ L → hcell (rd G h) ⟨r, 0 + 16, none⟩ = some (.slice en.1 en.2.1 en.2.2)
 revs : ∀ {G h : Heap} {L : List Heap}, Own G h L → c ∈ L → hcell (rd G h) ⟨r, 0 + 17, none⟩ = some (.slice rv.1 rv.2.1 rv.2.2)
 dl : ∀ {L : List Heap}, c ∈ L → Rdl L eDc dc1 (s.bk.done.length + 1) hds
 hl : hds.length = s.bk.done.length + 1
 dd : ∀ {k : Nat} {y : Hdr}, hds[k]? = some y → k ≤ s.bk.done.length → ∀ {L : List Heap}, c ∈ L → Rdl L eElm y.1 y.2.1 (replayD (s.bk.done.take k))
 el : ∀ {L : List Heap}, c ∈ L → Rdl L eI en.1 en.2.1 (endsI s.its)
 rl : ∀ {L : List Heap}, c ∈ L → Rdl L eI rv.1 rv.2.1 (revsI s.its)
theorem mem_perm {c : Heap} {L : List Heap} (h : c ∈ L) : ∃ R, (c :: R).Perm L := by
 obtain ⟨a, b, rfl⟩ := List.append_of_mem h
 exact ⟨a ++ b, List.perm_middle.symm⟩
theorem RunP.view {p : Option Addr} {s : Ru} {c : Heap} (hq : RunP p s c) : ∃ r d dc1 dc3 dn1 dn3 en rv hds, RView p s c r d dc1 dc3 dn1 dn3 en rv hds := by
 obtain ⟨d, b, r, C, M, dc, dn, en, rv, hds, dcs, cc, cm, cb, c1, c2, c3, c4, hp, hcl, hb, hm, hd1, hd2, hdn, hen, hrv, hj⟩ := hq
 obtain ⟨dn1, dn2, dn3⟩ := dn
 obtain ⟨dc1, dc2, dc3⟩ := dc
 simp only at hdn hd1
 have e3 := hdn.len
 have e4 := hd1.len
 have e5 := hd2.l1
 have e6 := hd2.l2
 rw [docsOf_len] at e5 e6
 rw [e5] at e4
 subst e3
 subst e4
 have op : ∀ {G h : Heap} {L R : List Heap}, Own G h L → (c :: R).Perm L → Own G h (single r (ruB C d b M (fun i => s.has i) (fun i => s.down i) (dc1, s.bk.done.length + 1, dc3) (dn1, s.bk.done.length, dn3) en rv s.boots) :: cb :: cc 0 :: cc 1 :: cc 2 :: cm 0 :: cm 1 :: cm 2 :: c1 :: c2 :: c3 :: c4 :: (dcs ++ R)) := fun hO hR => (hO.perm hR.symm.symm).openJ hj |> fun h => h
 refine ⟨r, d, dc1, dc3, dn1, dn3, en, rv, hds, hp, ?_, ?_, ?_, ?_, ?_, ?_, e5, ?_, ?_, ?_⟩
 ·intro G h L hO hc; obtain ⟨R, hR⟩ := mem_perm hc; exact hcell_own (op hO hR) inferInstance (by with_unfolding_all rfl)
 ·intro G h L hO hc; obtain ⟨R, hR⟩ := mem_perm hc; exact hcell_own (op hO hR) inferInstance (by with_unfolding_all rfl)
 ·intro G h L hO hc; obtain ⟨R, hR⟩ := mem_perm hc; exact hcell_own (op hO hR) inferInstance (by with_unfolding_all rfl)
 ·intro G h L hO hc; obtain ⟨R, hR⟩ := mem_perm hc; exact hcell_own (op hO hR) inferInstance (by with_unfolding_all rfl)
 ·intro G h L hO hc; obtain ⟨R, hR⟩ := mem_perm hc; exact hcell_own (op hO hR) inferInstance (by with_unfolding_all rfl)
 ·intro L hc G h hO
  obtain ⟨R, hR⟩ := mem_perm hc
  exact (hd1.rdO (op hO hR) (by simp)) _ _ (op hO hR)
 ·intro k y hy hk L hc G h hO
  obtain ⟨R, hR⟩ := mem_perm hc
  have hcc : dcs[k]? = some (dcs[k]'(by omega)) := List.getElem?_eq_getElem _
  exact hd2.rd k y _ _ hy (docsOf_get hk) hcc _ (by simp [List.getElem_mem]) _ _ (op hO hR)
 ·intro L hc G h hO
  obtain ⟨R, hR⟩ := mem_perm hc
  exact (hen.rdO (op hO hR) (by simp)) _ _ (op hO hR)
 ·intro L hc G h hO
  obtain ⟨R, hR⟩ := mem_perm hc
  exact (hrv.rdO (op hO hR) (by simp)) _ _ (op hO hR)
/-- One text of a run, read. -/
theorem RView.doc {p : Option Addr} {s : Ru} {c : Heap} {r : Nat} {d dc1 : Option Addr} {dc3 : Nat} {dn1 : Option Addr} {dn3 : Nat} {en rv : Hdr} {hds : List Hdr} (v : RView p s c r d dc1 dc3 dn1 dn3 en rv hds) {k : Nat} (hk : k ≤ s.bk.done.length) {G0 h0 : Heap} {L0 : List Heap} (hO0 : Own G0 h0 L0) (hc0 : c ∈ L0) :
  ∃ y : Hdr, y.2.1 = (replayD (s.bk.done.take k)).length ∧ (∀ {L : List Heap}, c ∈ L → Rdl L eElm y.1 y.2.1 (replayD (s.bk.done.take k))) ∧
   ∀ {G h : Heap} {L : List Heap}, Own G h L → c ∈ L → ∀ K, (∀ a, dc1 = some a → hcell (rd G h) (a.add (k * 1)) = some (.slice y.1 y.2.1 y.2.2) → K a) → NN dc1 K := by
 have hl := v.hl
 have hy : hds[k]? = some (hds[k]'(by omega)) := List.getElem?_eq_getElem _
 generalize hds[k]'(by omega) = y at hy
 refine ⟨y, ?_, v.dd hy hk, fun {G h L} hO hc K hK => ?_⟩
 ·exact (v.dd hy hk hc0).len hO0
 ·obtain ⟨y2, hy2, hn'⟩ := (v.dl hc).at eDc_ok hO (i := (k : Int)) (by omega) (by omega)
  rw [Int.toNat_natCast] at hy2 hn'
  rw [hy] at hy2
  cases hy2
  exact hn' K fun a ha hcell => hK a ha (hcell 0 _ rfl)
end Go.Sl
set_option maxRecDepth 100000
namespace Go.Sl
open Go Go.Proofs
variable {G h : Heap} {L R : List Heap} {K : Value → Heap → Prop} {Kp : PK}
/-! One changed byte is told by the sum. -/
theorem wrap32 {n : Nat} (h : n < 4294967296) : IntKind.u32.wrap (n : Int) = n := by
 have : IntKind.u32.wrap (n : Int) = (n : Int) % 4294967296 := by simp [IntKind.wrap, IntKind.signed, IntKind.bits]
 rw [this]; omega
theorem ofInt32 {n : Nat} (h : n < 4294967296) : (BitVec.ofInt 32 (n : Int)).toNat = n := by
 rw [BitVec.toNat_ofInt]; omega
theorem xor32 {a b : Nat} (ha : a < 4294967296) (hb : b < 4294967296) : bitsI .xor .u32 a b = ((a ^^^ b : Nat) : Int) ∧ a ^^^ b < 4294967296 := by
 have h : a ^^^ b < 2 ^ 32 := Nat.xor_lt_two_pow (n := 32) ha hb
 refine ⟨?_, h⟩
 have e : bitsI .xor .u32 (a : Int) (b : Int) = IntKind.u32.wrap ((BitVec.ofInt 32 (a : Int) ^^^ BitVec.ofInt 32 (b : Int)).toNat) := rfl
 rw [e, BitVec.toNat_xor, ofInt32 ha, ofInt32 hb, wrap32 h]
theorem and15N {a : Nat} (ha : a < 4294967296) : bitsI .and .u32 a 15 = ((a % 16 : Nat) : Int) := by
 have e : bitsI .and .u32 (a : Int) 15 = IntKind.u32.wrap ((BitVec.ofInt 32 (a : Int) &&& BitVec.ofInt 32 ((15 : Nat) : Int)).toNat) := rfl
 rw [e, BitVec.toNat_and, ofInt32 ha, ofInt32 (by omega), Nat.and_two_pow_sub_one_eq_mod a 4, wrap32 (by omega)]
def tabN (i : Nat) : Nat := (tab i).toNat
theorem tabN_ok : ∀ i : Nat, i < 16 → tab (i : Int) = (tabN i : Int) ∧ tabN i < 4294967296 := by decide
theorem tabN_inj : ∀ i : Nat, i < 16 → ∀ j : Nat, j < 16 → tabN i / 268435456 = tabN j / 268435456 → i = j := by decide
def ns (x : Nat) : Nat := (x / 16) ^^^ tabN (x % 16)
theorem ns_lt {x : Nat} (h : x < 4294967296) : ns x < 4294967296 :=
 (xor32 (a := x / 16) (by omega) (tabN_ok (x % 16) (by omega)).2).2
theorem ns_inj {x y : Nat} (hx : x < 4294967296) (hy : y < 4294967296) (h : ns x = ns y) : x = y := by
 have e1 : ∀ a b : Nat, (a ^^^ b) / 268435456 = (a / 268435456) ^^^ (b / 268435456) := fun a b => by
  have := Nat.shiftRight_xor_distrib (a := a) (b := b) (i := 28)
  simpa [Nat.shiftRight_eq_div_pow] using this
 have hd : ∀ z : Nat, z < 4294967296 → ns z / 268435456 = tabN (z % 16) / 268435456 := fun z hz => by
  unfold ns
  rw [e1, show z / 16 / 268435456 = 0 by omega, Nat.zero_xor]
 have hm : x % 16 = y % 16 := tabN_inj _ (by omega) _ (by omega) (by rw [← hd x hx, ← hd y hy, h])
 have h2 : (x / 16) ^^^ tabN (x % 16) = (y / 16) ^^^ tabN (x % 16) := by
  have := h
  unfold ns at this
  rw [← hm] at this; exact this
 have h3 : x / 16 = y / 16 := by
  have := congrArg (· ^^^ tabN (x % 16)) h2
  simpa [Nat.xor_assoc] using this
 omega
def crcN (r : Nat) (c : UInt8) : Nat := ns (ns (r ^^^ c.toNat))
theorem crcS_N {r : Nat} (hr : r < 4294967296) (c : UInt8) : crcS r c = (crcN r c : Int) ∧ crcN r c < 4294967296 := by
 have hc := c.toNat_lt
 have h0 := xor32 hr (b := c.toNat) (by omega)
 have step : ∀ x : Nat, x < 4294967296 → bitsI .xor .u32 (Int.fdiv (x : Int) (2 ^ 4)) (tab (bitsI .and .u32 (x : Int) 15)) = (ns x : Int) := fun x hx => by
  have e : Int.fdiv (x : Int) (2 ^ 4) = ((x / 16 : Nat) : Int) := by rw [Int.fdiv_eq_ediv_of_nonneg _ (by decide)]; omega
  rw [e, and15N hx, (tabN_ok (x % 16) (by omega)).1]
  exact (xor32 (by omega) (tabN_ok (x % 16) (by omega)).2).1
 refine ⟨?_, ns_lt (ns_lt h0.2)⟩
 show bitsI .xor .u32 (Int.fdiv (bitsI .xor .u32 (Int.fdiv (bitsI .xor .u32 r (IntKind.wrap .u32 c.toNat)) (2 ^ 4)) (tab (bitsI .and .u32 (bitsI .xor .u32 r (IntKind.wrap .u32 c.toNat)) 15))) (2 ^ 4)) (tab (bitsI .and .u32 (bitsI .xor .u32 (Int.fdiv (bitsI .xor .u32 r (IntKind.wrap .u32 c.toNat)) (2 ^ 4)) (tab (bitsI .and .u32 (bitsI .xor .u32 r (IntKind.wrap .u32 c.toNat)) 15))) 15)) = _
 rw [wrap32 (by omega), h0.1, step _ h0.2, step _ (ns_lt h0.2)]
 rfl
theorem fold_N (bs : List UInt8) : ∀ r : Nat, r < 4294967296 → bs.foldl crcS r = ((bs.foldl crcN r : Nat) : Int) ∧ bs.foldl crcN r < 4294967296 := by
 induction bs with
 | nil => intro r hr; exact ⟨rfl, hr⟩
 | cons b bs ih =>
  intro r hr
  obtain ⟨h1, h2⟩ := crcS_N hr b
  rw [List.foldl_cons, List.foldl_cons, h1]
  exact ih _ h2
theorem crcN_state {r s : Nat} (hr : r < 4294967296) (hs : s < 4294967296) {c : UInt8} (h : crcN r c = crcN s c) : r = s := by
 have hc := c.toNat_lt
 have a := (xor32 hr (b := c.toNat) (by omega)).2
 have b := (xor32 hs (b := c.toNat) (by omega)).2
 have := ns_inj a b (ns_inj (ns_lt a) (ns_lt b) h)
 have := congrArg (· ^^^ c.toNat) this
 simpa [Nat.xor_assoc] using this
theorem crcN_byte {r : Nat} (hr : r < 4294967296) {c d : UInt8} (h : crcN r c = crcN r d) : c = d := by
 have hc := c.toNat_lt
 have hd := d.toNat_lt
 have a := (xor32 hr (b := c.toNat) (by omega)).2
 have b := (xor32 hr (b := d.toNat) (by omega)).2
 have := ns_inj a b (ns_inj (ns_lt a) (ns_lt b) h)
 have := congrArg (r ^^^ ·) this
 exact UInt8.toNat_inj.1 (by simpa [← Nat.xor_assoc] using this)
theorem foldN_state (bs : List UInt8) : ∀ {r s : Nat}, r < 4294967296 → s < 4294967296 → bs.foldl crcN r = bs.foldl crcN s → r = s := by
 induction bs with
 | nil => intro r s _ _ h; exact h
 | cons b bs ih =>
  intro r s hr hs h
  exact crcN_state hr hs (ih (crcS_N hr b).2 (crcS_N hs b).2 h)
def crcF (bs : List UInt8) : Nat := 4294967295 ^^^ bs.foldl crcN 4294967295
theorem crc_N (bs : List UInt8) : crc bs = (crcF bs : Int) ∧ crcF bs < 4294967296 := by
 obtain ⟨h1, h2⟩ := fold_N bs 4294967295 (by omega)
 unfold crc
 rw [show (4294967295 : Int) = ((4294967295 : Nat) : Int) from rfl, h1]
 exact xor32 (a := 4294967295) (by omega) h2
/-- Bytes that part at one place have two sums. -/
theorem crc_one {u v : List UInt8} {a b : UInt8} (h : crc (u ++ a :: v) = crc (u ++ b :: v)) : a = b := by
 obtain ⟨h1, _⟩ := crc_N (u ++ a :: v)
 obtain ⟨h2, _⟩ := crc_N (u ++ b :: v)
 have h3 : crcF (u ++ a :: v) = crcF (u ++ b :: v) := by omega
 unfold crcF at h3
 have h4 := congrArg (4294967295 ^^^ ·) h3
 simp only [← Nat.xor_assoc, Nat.xor_self, Nat.zero_xor, List.foldl_append, List.foldl_cons] at h4
 obtain ⟨_, hu⟩ := fold_N u 4294967295 (by omega)
 exact crcN_byte hu (foldN_state v (crcS_N hu a).2 (crcS_N hu b).2 h4)
theorem byt_div (n k : Nat) : (byt (Int.fdiv (n : Int) (2 ^ k))).toNat = n / 2 ^ k % 256 := by
 have e : Int.fdiv (n : Int) (2 ^ k) = ((n / 2 ^ k : Nat) : Int) := by
  rw [Int.fdiv_eq_ediv_of_nonneg _ (Int.pow_nonneg (by decide))]
  simp
 rw [e, byt_mod]
theorem sum4_inj {a b : List UInt8} (h : sum4 (crc a) = sum4 (crc b)) : crc a = crc b := by
 obtain ⟨h1, h2⟩ := crc_N a
 obtain ⟨h3, h4⟩ := crc_N b
 rw [h1, h3] at h ⊢
 simp only [sum4, List.cons.injEq, and_true] at h
 obtain ⟨e0, e1, e2, e3⟩ := h
 have f0 := congrArg UInt8.toNat e0
 have f1 := congrArg UInt8.toNat e1
 have f2 := congrArg UInt8.toNat e2
 have f3 := congrArg UInt8.toNat e3
 rw [byt_mod, byt_mod] at f0
 rw [byt_div, byt_div] at f1 f2 f3
 omega
end Go.Sl
set_option maxRecDepth 100000
namespace Go.Sl
open Go Go.Proofs
variable {G h : Heap} {L R : List Heap} {K : Value → Heap → Prop} {Kp : PK}
theorem put16_of (x y : UInt8) : put16 (x.toNat * 256 + y.toNat) = [x, y] := by
 have hx := x.toNat_lt
 have hy := y.toNat_lt
 have h1 : Int.fdiv ((x.toNat * 256 + y.toNat : Nat) : Int) (2 ^ 8) = ((x.toNat : Nat) : Int) := by
  rw [Int.fdiv_eq_ediv_of_nonneg _ (by decide)]; omega
 unfold put16
 rw [h1]
 have e1 : byt (x.toNat : Int) = x := UInt8.toNat_inj.1 (by rw [byt_mod]; omega)
 have e2 : byt ((x.toNat * 256 + y.toNat : Nat) : Int) = y := UInt8.toNat_inj.1 (by rw [byt_mod]; omega)
 rw [e1, e2]
/-- The bytes as records and what is behind them. -/
theorem recE_none {tl : List UInt8} (h : recE tl = none) : ∃ pl post, tl = frame pl ++ post ∧ 1 ≤ pl.length ∧ pl.length ≤ 64 := by
 unfold recE at h
 by_cases h4 : tl.length < 4
 ·rw [if_pos h4] at h; cases h
 rw [if_neg h4] at h
 by_cases hh : h16 tl 0 + h16 tl 2 ≠ 65535 ∨ h16 tl 0 < 1 ∨ 64 < h16 tl 0
 ·rw [if_pos hh] at h; cases h
 rw [if_neg hh] at h
 by_cases h8 : tl.length < h16 tl 0 + 8
 ·rw [if_pos h8] at h; cases h
 rw [if_neg h8] at h
 by_cases hs : sum4 (crc (tl.take (h16 tl 0 + 4))) = (tl.drop (h16 tl 0 + 4)).take 4
 ·obtain ⟨n, hn⟩ : ∃ n, h16 tl 0 = n := ⟨_, rfl⟩
  rw [hn] at hh h8 hs
  have hl : ((tl.drop 4).take n).length = n := by rw [List.length_take, List.length_drop]; omega
  have hd : head n = tl.take 4 := by
   unfold head
   rw [← hn, show 65535 - h16 tl 0 = h16 tl 2 by omega]
   unfold h16
   rw [put16_of, put16_of]
   apply List.ext_getElem?
   intro i
   rw [List.getElem?_take]
   have hi : i = 0 ∨ i = 1 ∨ i = 2 ∨ i = 3 ∨ 4 ≤ i := by omega
   rcases hi with e | e | e | e | e
   ·subst e; exact (getD_of (by omega)).symm
   ·subst e; exact (getD_of (by omega)).symm
   ·subst e; exact (getD_of (by omega)).symm
   ·subst e; exact (getD_of (by omega)).symm
   ·rw [if_neg (by omega), List.getElem?_eq_none (by simp; omega)]
  have h44 : tl.take 4 ++ (tl.drop 4).take n = tl.take (n + 4) := by
   rw [Nat.add_comm n 4, List.take_add]
  refine ⟨(tl.drop 4).take n, tl.drop (n + 8), ?_, by omega, by omega⟩
  unfold frame
  rw [hl, hd, h44, hs]
  have e8 : tl.drop (n + 8) = (tl.drop (n + 4)).drop 4 := by rw [List.drop_drop]
  rw [e8, List.append_assoc, List.take_append_drop, List.take_append_drop]
 ·rw [if_neg hs] at h; cases h
end Go.Sl
set_option maxRecDepth 100000
namespace Go.Sl
open Go Go.Proofs
variable {G h : Heap} {L R : List Heap} {K : Value → Heap → Prop} {Kp : PK}
/-! What is left of records that are cut, or of which one byte is changed. -/
theorem put16_inj {n m : Nat} (hn : n < 65536) (hm : m < 65536) (h : put16 n = put16 m) : n = m := by
 unfold put16 at h
 simp only [List.cons.injEq, and_true] at h
 have h1 := put16_val n hn
 have h2 := put16_val m hm
 rw [h.1, h.2] at h1
 omega
theorem fr_get {pl : List UInt8} {j : Nat} (hj : j < 4) : (frame pl)[j]? = (head pl.length)[j]? := by
 unfold frame
 rw [List.append_assoc, List.getElem?_append_left (by simp [head, put16]; omega)]
theorem hd_get (n j : Nat) : (head n)[j]? = if j < 2 then (put16 n)[j]? else (put16 (65535 - n))[j - 2]? := by
 unfold head
 by_cases h : j < 2
 ·rw [if_pos h, List.getElem?_append_left (by simp [put16]; omega)]
 ·rw [if_neg h, List.getElem?_append_right (by simp [put16]; omega)]; rfl
theorem p16_eq {n m : Nat} (h0 : (put16 n)[0]? = (put16 m)[0]?) (h1 : (put16 n)[1]? = (put16 m)[1]?) : put16 n = put16 m := by
 unfold put16 at *
 simp only [List.getElem?_cons_zero, List.getElem?_cons_succ, Option.some.injEq] at h0 h1
 rw [h0, h1]
theorem recE_part {pl : List UInt8} (h1 : 1 ≤ pl.length) (h2 : pl.length ≤ 64) {k : Nat} (hk : k < (frame pl).length) : ∃ e, recE ((frame pl).take k) = some e := by
 cases hr : recE ((frame pl).take k) with
 | some e => exact ⟨e, rfl⟩
 | none =>
  exfalso
  obtain ⟨pl', post, he, g1, g2⟩ := recE_none hr
  have hl := congrArg List.length he
  have fl := frame_len pl
  have fl' := frame_len pl'
  rw [List.length_append, List.length_take] at hl
  have hg : ∀ j, j < 2 → (put16 pl'.length)[j]? = (put16 pl.length)[j]? := fun j hj => by
   have := congrArg (·[j]?) he
   rw [List.getElem?_take, if_pos (by omega), List.getElem?_append_left (by rw [frame_len]; omega), fr_get (by omega), fr_get (by omega), hd_get, hd_get, if_pos hj, if_pos hj] at this
   exact this.symm
  have := put16_inj (by omega) (by omega) (p16_eq (hg 0 (by omega)) (hg 1 (by omega)))
  omega
theorem fr_take (pl : List UInt8) : (frame pl).take (pl.length + 4) = head pl.length ++ pl := by
 unfold frame
 rw [show pl.length + 4 = (head pl.length ++ pl).length by simp [head, put16] <;> omega, List.take_left]
theorem fr_drop (pl : List UInt8) : (frame pl).drop (pl.length + 4) = sum4 (crc ((frame pl).take (pl.length + 4))) := by
 rw [fr_take]
 unfold frame
 rw [show pl.length + 4 = (head pl.length ++ pl).length by simp [head, put16] <;> omega, List.drop_left]
theorem recE_spoilt {pl t : List UInt8} {i : Nat} (h1 : 1 ≤ pl.length) (h2 : pl.length ≤ 64) (hi : i < t.length) (hiF : i < (frame pl).length) (hag : ∀ j, j < t.length → j < (frame pl).length → j ≠ i → t[j]? = (frame pl)[j]?) (hne : t[i]? ≠ (frame pl)[i]?) : ∃ e, recE t = some e := by
 cases hr : recE t with
 | some e => exact ⟨e, rfl⟩
 | none =>
  exfalso
  obtain ⟨pl', post, he, g1, g2⟩ := recE_none hr
  have hFl := frame_len pl
  have hFl' := frame_len pl'
  have hl : t.length = (frame pl').length + post.length := by rw [he, List.length_append]
  have hg : ∀ j, j < (frame pl').length → t[j]? = (frame pl')[j]? := fun j hj => by rw [he, List.getElem?_append_left hj]
  have ag : ∀ j, j < (frame pl').length → j < (frame pl).length → j ≠ i → (frame pl')[j]? = (frame pl)[j]? := fun j a b c => by rw [← hg j a]; exact hag j (by omega) b c
  have ah : ∀ j, j < 4 → j ≠ i → (head pl'.length)[j]? = (head pl.length)[j]? := fun j hj c => by
   have := ag j (by omega) (by omega) c
   rwa [fr_get hj, fr_get hj] at this
  have hn : pl'.length = pl.length := by
   by_cases h4 : i < 2
   ·have e : ∀ j, j < 2 → (put16 (65535 - pl'.length))[j]? = (put16 (65535 - pl.length))[j]? := fun j hj => by
     have := ah (j + 2) (by omega) (by omega)
     rwa [hd_get, hd_get, if_neg (by omega), if_neg (by omega), Nat.add_sub_cancel] at this
    have := put16_inj (by omega) (by omega) (p16_eq (e 0 (by omega)) (e 1 (by omega)))
    omega
   ·have e : ∀ j, j < 2 → (put16 pl'.length)[j]? = (put16 pl.length)[j]? := fun j hj => by
     have := ah j (by omega) (by omega)
     rwa [hd_get, hd_get, if_pos hj, if_pos hj] at this
    exact put16_inj (by omega) (by omega) (p16_eq (e 0 (by omega)) (e 1 (by omega)))
  have hne2 : (frame pl')[i]? ≠ (frame pl)[i]? := by rw [← hg i (by omega)]; exact hne
  have d1 := fr_drop pl
  have d2 := fr_drop pl'
  rw [hn] at d2
  have gd : ∀ (F : List UInt8) j, (F.drop (pl.length + 4))[j]? = F[pl.length + 4 + j]? := fun F j => List.getElem?_drop
  have gt : ∀ (F : List UInt8) j, j < pl.length + 4 → (F.take (pl.length + 4))[j]? = F[j]? := fun F j hj => by rw [List.getElem?_take, if_pos hj]
  have tl : ∀ F : List UInt8, F.length = pl.length + 8 → (F.take (pl.length + 4)).length = pl.length + 4 := fun F hF => by rw [List.length_take]; omega
  by_cases h4 : i < 4
  ·apply hne2
   rw [fr_get h4, fr_get h4, hn]
  by_cases hp : i < pl.length + 4
  ·have hs : (frame pl').drop (pl.length + 4) = (frame pl).drop (pl.length + 4) := by
    apply List.ext_getElem?
    intro j
    rw [gd, gd]
    by_cases hj : pl.length + 4 + j < (frame pl).length
    ·exact ag _ (by omega) hj (by omega)
    ·rw [List.getElem?_eq_none (by omega), List.getElem?_eq_none (by omega)]
   rw [d1, d2] at hs
   have hc := sum4_inj hs
   have t1 := tl _ hFl
   have t2 := tl _ (hFl'.trans (by omega))
   have ga := gt (frame pl)
   have gb := gt (frame pl')
   generalize (frame pl).take (pl.length + 4) = A at *
   generalize (frame pl').take (pl.length + 4) = A' at *
   have x1 : A = A.take i ++ (A[i]'(by omega)) :: A.drop (i + 1) := by
    rw [List.getElem_cons_drop, List.take_append_drop]
   have x2 : A' = A'.take i ++ (A'[i]'(by omega)) :: A'.drop (i + 1) := by
    rw [List.getElem_cons_drop, List.take_append_drop]
   have e1 : A'.take i = A.take i := by
    apply List.ext_getElem?
    intro j
    rw [List.getElem?_take, List.getElem?_take]
    by_cases hj : j < i
    ·rw [if_pos hj, if_pos hj, ga _ (by omega), gb _ (by omega)]
     exact ag _ (by omega) (by omega) (by omega)
    ·rw [if_neg hj, if_neg hj]
   have e2 : A'.drop (i + 1) = A.drop (i + 1) := by
    apply List.ext_getElem?
    intro j
    rw [List.getElem?_drop, List.getElem?_drop]
    by_cases hj : i + 1 + j < pl.length + 4
    ·rw [ga _ hj, gb _ hj]
     exact ag _ (by omega) (by omega) (by omega)
    ·rw [List.getElem?_eq_none (by omega), List.getElem?_eq_none (by omega)]
   have hc2 : crc (A'.take i ++ (A'[i]'(by omega)) :: A'.drop (i + 1)) = crc (A.take i ++ (A[i]'(by omega)) :: A.drop (i + 1)) := by rw [← x1, ← x2]; exact hc
   rw [e1, e2] at hc2
   have := crc_one hc2
   apply hne2
   rw [← ga i hp, ← gb i hp, List.getElem?_eq_getElem (by omega), List.getElem?_eq_getElem (by omega), this]
  ·have hA : (frame pl').take (pl.length + 4) = (frame pl).take (pl.length + 4) := by
    apply List.ext_getElem?
    intro j
    rw [List.getElem?_take, List.getElem?_take]
    by_cases hj : j < pl.length + 4
    ·rw [if_pos hj, if_pos hj]
     exact ag _ (by omega) (by omega) (by omega)
    ·rw [if_neg hj, if_neg hj]
   rw [hA, ← d1] at d2
   have := congrArg (·[i - (pl.length + 4)]?) d2
   rw [gd, gd, show pl.length + 4 + (i - (pl.length + 4)) = i by omega] at this
   exact hne2 this
/-- The place that so many bytes come to. -/
structure AtK (pls : List (List UInt8)) (x m : Nat) : Prop where
 le : m ≤ pls.length
 lo : (frames (pls.take m)).length ≤ x
 hi : ∀ j, m < j → j ≤ pls.length → x < (frames (pls.take j)).length
theorem frames_split (pls : List (List UInt8)) (m : Nat) : frames pls = frames (pls.take m) ++ frames (pls.drop m) := by unfold frames; rw [← List.flatMap_append, List.take_append_drop]
theorem frames_c (a : List UInt8) (l : List (List UInt8)) : frames (a :: l) = frame a ++ frames l := by unfold frames; rw [List.flatMap_cons]
theorem frames_s (l : List (List UInt8)) (a : List UInt8) : frames (l ++ [a]) = frames l ++ frame a := by unfold frames; rw [List.flatMap_append]; simp
theorem AtK.more {pls : List (List UInt8)} {x m : Nat} (h : AtK pls x m) (hx : x < (frames pls).length ∨ (x = (frames pls).length ∧ (frames (pls.take m)).length < x)) : ∃ pl, pl ∈ pls ∧ x < (frames (pls.take m)).length + (frame pl).length ∧ ∃ rest, frames pls = frames (pls.take m) ++ (frame pl ++ rest) := by
 have hm : m < pls.length := by
  rcases Nat.lt_or_ge m pls.length with h1 | h1
  ·exact h1
  ·have := h.lo
   rw [List.take_of_length_le h1] at this hx
   omega
 have hd : pls.drop m = pls[m] :: pls.drop (m + 1) := List.drop_eq_getElem_cons hm
 have htk : pls.take (m + 1) = pls.take m ++ [pls[m]] := by rw [List.take_add_one, List.getElem?_eq_getElem hm]; rfl
 have h1 := h.hi (m + 1) (by omega) (by omega)
 rw [htk] at h1
 have e1 : (frames (pls.take m ++ [pls[m]])).length = (frames (pls.take m)).length + (frame pls[m]).length := by rw [frames_s, List.length_append]
 refine ⟨pls[m], List.getElem_mem hm, by omega, frames (pls.drop (m + 1)), ?_⟩
 rw [frames_split pls m, hd, frames_c]
theorem cut_split {pls : List (List UInt8)} (hpl : ∀ pl ∈ pls, 1 ≤ pl.length ∧ pl.length ≤ 64) {x m : Nat} (h : AtK pls x m) (hx : x ≤ (frames pls).length) : ∃ tl, (frames pls).take x = frames (pls.take m) ++ tl ∧ Tl tl ∧ (tl = [] ↔ (frames (pls.take m)).length = x) := by
 by_cases he : (frames (pls.take m)).length = x
 ·refine ⟨[], ?_, .inl rfl, by simp [he]⟩
  rw [List.append_nil, frames_split pls m, ← he, List.take_left]
 ·have hlo := h.lo
  obtain ⟨pl, hm, h1, rest, h2⟩ := h.more (by omega)
  obtain ⟨g1, g2⟩ := hpl pl hm
  have hk : x - (frames (pls.take m)).length < (frame pl).length := by omega
  refine ⟨(frame pl).take (x - (frames (pls.take m)).length), ?_, .inr ⟨?_, recE_part g1 g2 hk⟩, ?_⟩
  ·rw [h2, List.take_append, List.take_of_length_le (by omega), List.take_append_of_le_length (by omega)]
  ·intro e
   have := congrArg List.length e
   rw [List.length_take, List.length_nil] at this
   omega
  ·constructor
   ·intro e
    have := congrArg List.length e
    rw [List.length_take, List.length_nil] at this
    omega
   ·intro e; exact absurd e he
theorem spoil_split {pls : List (List UInt8)} (hpl : ∀ pl ∈ pls, 1 ≤ pl.length ∧ pl.length ≤ 64) {x m cut : Nat} {y : UInt8} (h : AtK pls x m) (hc : cut ≤ (frames pls).length) (hx : x < cut) (hy : some y ≠ (frames pls)[x]?) : ∃ tl, ((frames pls).take cut).set x y = frames (pls.take m) ++ tl ∧ Tl tl ∧ tl ≠ [] := by
 have hlo := h.lo
 obtain ⟨pl, hm, h1, rest, h2⟩ := h.more (by omega)
 obtain ⟨g1, g2⟩ := hpl pl hm
 generalize hE : (frames (pls.take m)).length = E at *
 have e1 : (frames pls).take cut = frames (pls.take m) ++ (frame pl ++ rest).take (cut - E) := by
  rw [h2, List.take_append, List.take_of_length_le (by omega), hE]
 have e2 : ((frames pls).take cut).set x y = frames (pls.take m) ++ ((frame pl ++ rest).take (cut - E)).set (x - E) y := by
  rw [e1, List.set_append_right _ _ (by omega), hE]
 have hfl : (frames pls).length = E + (frame pl ++ rest).length := by rw [h2, List.length_append, hE]
 have hl : (((frame pl ++ rest).take (cut - E)).set (x - E) y).length = cut - E := by
  rw [List.length_set, List.length_take]; omega
 have hne : ((frame pl ++ rest).take (cut - E)).set (x - E) y ≠ [] := fun e => by
  rw [e, List.length_nil] at hl; omega
 refine ⟨_, e2, .inr ⟨hne, recE_spoilt (i := x - E) g1 g2 (by omega) (by omega) (fun j a b c => ?_) ?_⟩, hne⟩
 ·rw [List.getElem?_set_ne (by omega), List.getElem?_take, if_pos (by omega), List.getElem?_append_left b]
 ·rw [List.getElem?_set_self (by rw [List.length_take]; omega)]
  intro e
  apply hy
  rw [e, h2, List.getElem?_append_right (by omega), hE, List.getElem?_append_left (by omega)]
end Go.Sl
set_option maxRecDepth 100000
namespace Go.Sl
open Go Go.Proofs
variable {G h : Heap} {L R : List Heap} {K : Value → Heap → Prop} {Kp : PK}
theorem cE (e : Ed) (l : List It) : (It.edit e :: l).countP isEdit = l.countP isEdit + 1 := List.countP_cons_of_pos rfl
theorem Runs.split {x y : Bk} {its : List It} (h : Runs x its y) : ∀ m, ∃ z, Runs x (its.take m) z ∧ (∃ D, z.done = x.done ++ D ∧ D.length = (its.take m).countP isEdit ∧ ∃ D2, y.done = x.done ++ D ++ D2) ∧ z.edits.length = x.edits.length + (its.take m).countP isEdit := by
 induction h with
 | nil => intro m; exact ⟨_, by rw [List.take_nil]; exact .nil, ⟨[], by simp, by simp, [], by simp⟩, by simp⟩
 | boot a b h ih =>
  intro m
  cases m with
  | zero =>
   obtain ⟨z, _, ⟨D, _, _, D2, hD⟩, _⟩ := ih 1000000
   exact ⟨_, .nil, ⟨[], by simp, by simp, D ++ D2, by rw [hD, List.append_nil, List.append_assoc]; rfl⟩, by simp⟩
  | succ m =>
   obtain ⟨z, h1, ⟨D, h2, h3, D2, h4⟩, h5⟩ := ih m
   exact ⟨z, .boot a b h1, ⟨D, h2, by rw [h3]; simp [isEdit], D2, h4⟩, by rw [h5]; simp [isEdit, Bk.started]⟩
 | @edit x0 y0 l0 e0 hd0 a b c d h ih =>
  intro m
  cases m with
  | zero =>
   obtain ⟨z, _, ⟨D, _, _, D2, hD⟩, _⟩ := ih 1000000
   exact ⟨_, .nil, ⟨[], by simp, by simp, [(hd0.step e0).1] ++ D ++ D2, by rw [hD, List.append_nil]; simp [Bk.taken]⟩, by simp⟩
  | succ m =>
   obtain ⟨z, h1, ⟨D, h2, h3, D2, h4⟩, h5⟩ := ih m
   refine ⟨z, .edit a b c d h1, ⟨(hd0.step e0).1 :: D, by rw [h2]; simp [Bk.taken], by rw [List.take_succ_cons, cE, List.length_cons, h3], D2, by rw [h4]; simp [Bk.taken]⟩, ?_⟩
   rw [List.take_succ_cons, cE, h5]
   simp only [Bk.taken, List.length_append, List.length_singleton]; omega
theorem endsI_get {its : List It} {k : Nat} (h : k ≤ its.length) : (endsI its)[k]? = some ((frames ((its.map It.bytes).take k)).length : Int) := by
 unfold endsI
 rw [List.getElem?_map, List.getElem?_range (by omega), ← List.map_take]; rfl
theorem revsI_get {its : List It} {k : Nat} (h : k ≤ its.length) : (revsI its)[k]? = some ((its.take k).countP isEdit : Int) := by
 unfold revsI
 rw [List.getElem?_map, List.getElem?_range (by omega)]; rfl
theorem lawUntil {p : Option Addr} {s : Ru} {c : Heap} {r : Nat} {d dc1 : Option Addr} {dc3 : Nat} {dn1 : Option Addr} {dn3 : Nat} {en rv : Hdr} {hds : List Hdr} {x : Nat} (v : RView p s c r d dc1 dc3 dn1 dn3 en rv hds) (hO : Own G h L) (hc : c ∈ L) (hil : s.its.length ≤ 4000)
  (hK : ∀ m, AtK (s.its.map It.bytes) x m → K (.tuple #[.int .i64 ((s.its.take m).countP isEdit : Nat), .int .i64 (frames ((s.its.map It.bytes).take m)).length]) h) : CallF Tryz.prog G 17 #[.pointer p, .int .i64 x] K Kp h := by
 refine S17_ok ?_
 unfold S17
 obtain rfl := v.hp
 have hel := (v.el hc).len hO
 have hrl := (v.rl hc).len hO
 rw [show (endsI s.its).length = s.its.length + 1 by simp [endsI]] at hel
 rw [show (revsI s.its).length = s.its.length + 1 by simp [revsI]] at hrl
 have rdE : ∀ {k : Nat}, k ≤ s.its.length → ∀ K, (∀ a, hcell (rd G h) (a.add (Int.toNat (k : Int) * 1)) = some (.int .i64 (frames ((s.its.map It.bytes).take k)).length) → K a) → NN en.1 K := fun {k} hk K hK => by
  obtain ⟨y, hy, hn'⟩ := (v.el hc).at eI_ok hO (i := (k : Int)) (by omega) (by omega)
  rw [Int.toNat_natCast, endsI_get hk] at hy
  cases hy
  exact hn' K fun a _ hcell => hK a (hcell 0 _ rfl)
 have rdR : ∀ {k : Nat}, k ≤ s.its.length → ∀ K, (∀ a, hcell (rd G h) (a.add (Int.toNat (k : Int) * 1)) = some (.int .i64 ((s.its.take k).countP isEdit : Nat)) → K a) → NN rv.1 K := fun {k} hk K hK => by
  obtain ⟨y, hy, hn'⟩ := (v.rl hc).at eI_ok hO (i := (k : Int)) (by omega) (by omega)
  rw [Int.toNat_natCast, revsI_get hk] at hy
  cases hy
  exact hn' K fun a _ hcell => hK a (hcell 0 _ rfl)
 refine LoopS.go (fun vs h' => h' = h ∧ ∃ k i : Nat, i ≤ s.its.length + 1 ∧ k ≤ s.its.length ∧ vs = [.int .i64 k, .int .i64 i] ∧ (frames ((s.its.map It.bytes).take k)).length ≤ x ∧ ∀ j, k < j → j < i → x < (frames ((s.its.map It.bytes).take j)).length) (fun vs _ => match vs with | [_, .int _ n] => (s.its.length + 1 - n).toNat | _ => 0) ⟨rfl, 0, 0, by omega, by omega, rfl, by simp [frames], fun j a b => by omega⟩ ?_
 rintro jv vs h' ⟨rfl, k, i, hi, hk, rfl, h1, h2⟩
 unfold S17_l3
 refine ⟨_, _, rfl, NN.go (LdSl.i (v.ends hO hc) (If.dec (fun hlt => ?_) (fun hlt => ?_)))⟩
 ·refine NN.go (LdSl.i (v.ends hO hc) (Rq.go (by omega) (rdE (k := i) (by omega) _ fun a ha => LdI.i ha (If.dec (fun hle => ?_) (fun hle => ?_)))))
  ·unfold S17_k1
   exact Rng.go (by omega) ⟨⟨rfl, i, i + 1, by omega, by omega, rfl, by omega, fun j a b => by omega⟩, by simp only; omega⟩
  ·unfold S17_k1
   refine Rng.go (by omega) ⟨⟨rfl, k, i + 1, by omega, by omega, rfl, h1, fun j a b => ?_⟩, by simp only; omega⟩
   by_cases hji : j = i
   ·subst hji; omega
   ·exact h2 j a (by omega)
 ·unfold S17_k2
  refine NN.go (LdSl.i (v.revs hO hc) (Rq.go (by omega) (rdR (k := k) hk _ fun a ha => LdI.i ha (NN.go (LdSl.i (v.ends hO hc) (Rq.go (by omega) (rdE (k := k) hk _ fun a ha => LdI.i ha ?_)))))))
  exact hK k ⟨by rw [List.length_map]; exact hk, h1, fun j a b => h2 j a (by rw [List.length_map] at b; omega)⟩
theorem lawCopied {p : Option Addr} {l c : Nat} {bs : List UInt8} (hO : Own G h L) (hr : Rdl L eU8 p l bs) (hsm : l ≤ 1000000)
  (hK : ∀ h' b pc, Sli eU8 (some ⟨b, 0, none⟩) l l bs pc → Own G h' (pc :: L) → K (.slice (some ⟨b, 0, none⟩) l l) h') : CallF Tryz.prog G 19 #[.slice p l c] K Kp h := by
 refine S19_ok ?_
 unfold S19
 have hl := hr.len hO
 refine make_go tU8 hO (by omega) (by omega) (by omega) fun h b pc hs hO => ⟨_, _, _, rfl, ?_⟩
 rw [Int.toNat_natCast] at hs ⊢
 refine LoopS.go (fun vs h' => ∃ (n : Nat) (pc : Heap), n ≤ l ∧ vs = [.int .i64 n] ∧ Sli eU8 (some ⟨b, 0, none⟩) l l (bs.take n ++ List.replicate (l - n) eU8.z) pc ∧ Own G h' (pc :: L)) (fun vs _ => match vs with | [.int _ n] => (l - n).toNat | _ => 0) ⟨0, pc, by omega, rfl, by simpa using hs, hO⟩ ?_
 clear hO hs pc
 rintro jv vs h ⟨n, pc, hn, rfl, hs, hO⟩
 unfold S19_l3
 refine ⟨_, rfl, If.dec (fun hlt => ?_) (fun hlt => ?_)⟩
 ·refine Rq.go ⟨by omega, hlt⟩ ?_
  obtain ⟨y, hy, hn'⟩ := (hr.cons pc).at eU8_ok hO (i := (n : Int)) (by omega) hlt
  rw [Int.toNat_natCast] at hy
  refine hn' _ fun a _ hc => LdI.i (hc 0 _ rfl) (Rq.go ⟨by omega, hlt⟩ (NN.go ?_))
  rw [Int.toNat_natCast, add_mk]
  refine Sli_st eU8_ok (i := n) (j := 0) (x := eU8.z) (y := y) hO hs (.refl _) ?_ (by decide) rfl rfl rfl (by simp [eU8]) fun h pc hs hO => ?_
  ·rw [List.getElem?_append_right (by simp <;> omega)]
   simp only [List.length_take, List.getElem?_replicate]
   rw [if_pos (by omega)]
  refine Rng.go (by omega) ⟨⟨n + 1, pc, by omega, rfl, ?_, hO⟩, by simp only; omega⟩
  have e : (bs.take n ++ List.replicate (l - n) eU8.z).set n y = bs.take (n + 1) ++ List.replicate (l - (n + 1)) eU8.z := by
   rw [List.set_append_right _ _ (by simp; omega), List.take_add_one, hy, show l - n = (l - (n + 1)) + 1 by omega, List.replicate_succ, List.length_take, Nat.min_eq_left (by omega), Nat.sub_self, List.set_cons_zero]
   simp
  rwa [e] at hs
 ·unfold S19_k1
  have hnl : n = l := by omega
  subst hnl
  rw [List.take_of_length_le (by omega), Nat.sub_self, List.replicate_zero, List.append_nil] at hs
  exact hK _ _ _ hs hO
/-- The past of these bytes is a beginning of the past. -/
theorem lawBegins {p : Option Addr} {s : Ru} {c : Heap} {r : Nat} {d dc1 : Option Addr} {dc3 : Nat} {dn1 : Option Addr} {dn3 : Nat} {en rv : Hdr} {hds : List Hdr} {pa : Option Addr} {l cc m : Nat} {tl : List UInt8} {clean : Bool} (v : RView p s c r d dc1 dc3 dn1 dn3 en rv hds) (hT : Gt G) (hg : Gl G) (hw : Gw G) (hs : RInv s) (hO : Own G h L) (hc : c ∈ L)
  (hr : Rdl L eU8 pa l (frames ((s.its.map It.bytes).take m) ++ tl)) (htl : Tl tl) (hm : m ≤ s.its.length) (hsm : l ≤ 262144) (hcl : clean = true ↔ tl = [])
  (hK : ∀ h', Own G h' L → K (.bool true) h') : CallF Tryz.prog G 18 #[.pointer p, .slice pa l cc, .int .i64 ((s.its.take m).countP isEdit : Nat), .bool clean] K Kp h := by
 refine S18_ok ?_
 unfold S18
 obtain rfl := v.hp
 obtain ⟨z, hz, ⟨D, hD, hDl, D2, hD2⟩, hze⟩ := hs.b.run.split m
 have hb : ∀ x, bk0.done ++ x = x := fun x => rfl
 rw [hb] at hD hD2
 have hde := rinvs.de s hs
 have hed := rinvs.ed s hs
 have hfit := rinvs.fit s hs
 have hDle : D.length ≤ s.bk.done.length := by rw [hD2]; simp
 have hze : z.edits.length = D.length := by rw [hze, hDl]; exact Nat.zero_add _
 have hDt : D = s.bk.done.take D.length := by rw [hD2, List.take_left]
 have hfz : Fit z.done := by
  rw [hD, hDt]
  intro i o ho
  have hi : i < D.length := by
   have := (List.getElem?_eq_some_iff.1 ho).1
   rw [List.length_take] at this; omega
  rw [List.getElem?_take, if_pos hi] at ho
  have := hfit i o ho
  rw [List.take_take, Nat.min_eq_left (by omega)]
  exact this
 have hll := hr.len hO
 rw [List.length_append] at hll
 have hil := hs.small.2.1
 rw [← List.map_take] at hr hll
 refine revOpen (tl := tl) (its := s.its.take m) (y := z) hT hg hw hO hr hz htl (by omega) (by rw [List.length_take]; omega) (by rw [hD, hze]) (by omega) hfz fun h p2 w c2 cf hp2 hw2 hpq hO => ⟨_, _, rfl, ?_⟩
 obtain ⟨b2, rfl⟩ := hp2
 refine If.f rfl (Rq.go hw2.isI ?_)
 have hclw : (isNilI w == clean) = true := by
  rcases hw2 with ⟨h0, rfl, _⟩ | ⟨h0, e, f, _, rfl, _⟩
  ·rw [hcl.2 h0]; rfl
  ·cases clean with
   | true => exact absurd (hcl.1 rfl) h0
   | false => rfl
 refine If.f (by rw [hclw]; rfl) (pastRevs hO hpq ⟨_, rfl, ?_⟩)
 unfold S18_k1
 refine If.f (by rw [hze, hDl]; simp) ?_
 refine LoopS.go (fun vs h' => ∃ (n : Nat), n ≤ D.length + 1 ∧ vs = [.int .i64 n] ∧ Own G h' (c2 :: cf :: L)) (fun vs _ => match vs with | [.int _ n] => (D.length + 1 - n).toNat | _ => 0) ⟨0, by omega, rfl, hO⟩ ?_
 clear hO
 rintro jv vs h ⟨n, hn, rfl, hO⟩
 unfold S18_l5
 refine ⟨_, rfl, If.dec (fun hlt => ?_) (fun hlt => ?_)⟩
 ·have hn2 : n ≤ D.length := by omega
  refine pastTextS (r := (n : Int)) hO hpq (by rw [hD, hze]) (by omega) hfz (fun _ h hO => ⟨_, _, rfl, ?_⟩) (fun e => absurd ⟨by omega, by omega⟩ e)
  refine lawNum ⟨_, rfl, If.f rfl ?_⟩
  have hmem : c ∈ (c2 :: cf :: L) := List.mem_cons_of_mem _ (List.mem_cons_of_mem _ hc)
  refine NN.go (LdSl.i (v.docs hO hmem) (Rq.go (by omega) ?_))
  obtain ⟨y, hyl, hyd, hyc⟩ := v.doc (k := n) (by omega) hO hmem
  rw [Int.toNat_natCast]
  refine hyc hO hmem _ fun a _ hcell => LdSl.i hcell ?_
  have hDl2 := replayD_len s.bk.done n
  refine lawText hO (hyd hmem) (by omega) fun h hO => ⟨_, rfl, ?_⟩
  unfold S18_k2
  have e : z.done.take n = s.bk.done.take n := by rw [hD, hDt, List.take_take, Nat.min_eq_left hn2]
  rw [e]
  exact If.f (bne_self _) (Rng.go (by omega) ⟨⟨n + 1, by omega, rfl, hO⟩, by simp only; omega⟩)
 ·unfold S18_k3
  exact hK _ hO.drop1.drop1
end Go.Sl
set_option maxRecDepth 100000
namespace Go.Sl
open Go Go.Proofs
variable {G h : Heap} {L R : List Heap} {K : Value → Heap → Prop} {Kp : PK}
theorem xor8 {x : UInt8} {k : Int} (h : 1 ≤ k ∧ k ≤ 255) : ∃ y : UInt8, bitsI .xor .u8 x.toNat (IntKind.wrap .u8 k) = (y.toNat : Int) ∧ y ≠ x := by
 have hx := x.toNat_lt
 obtain ⟨n, rfl⟩ : ∃ n : Nat, k = n := ⟨k.toNat, by omega⟩
 have w : ∀ n : Nat, n < 256 → IntKind.u8.wrap (n : Int) = n := fun n hn => by
  have : IntKind.u8.wrap (n : Int) = (n : Int) % 256 := by simp [IntKind.wrap, IntKind.signed, IntKind.bits]
  rw [this]; omega
 have o : ∀ n : Nat, n < 256 → (BitVec.ofInt 8 (n : Int)).toNat = n := fun n hn => by rw [BitVec.toNat_ofInt]; omega
 have hn : n < 256 := by omega
 have hlt : x.toNat ^^^ n < 2 ^ 8 := Nat.xor_lt_two_pow (n := 8) hx hn
 have e : bitsI .xor .u8 (x.toNat : Int) (n : Int) = IntKind.u8.wrap ((BitVec.ofInt 8 (x.toNat : Int) ^^^ BitVec.ofInt 8 (n : Int)).toNat) := rfl
 refine ⟨UInt8.ofNat (x.toNat ^^^ n), ?_, fun e2 => ?_⟩
 ·rw [w _ hn, e, BitVec.toNat_xor, o _ hx, o _ hn, w _ hlt, UInt8.toNat_ofNat', Nat.mod_eq_of_lt hlt]
 ·have := congrArg UInt8.toNat e2
  rw [UInt8.toNat_ofNat', Nat.mod_eq_of_lt hlt] at this
  have := congrArg (x.toNat ^^^ ·) this
  simp only [← Nat.xor_assoc, Nat.xor_self, Nat.zero_xor] at this
  omega
theorem RunP.bytes {p : Option Addr} {s : Ru} {c : Heap} (hq : RunP p s c) (hfr : (frames (s.its.map It.bytes)).length ≤ 262144) : ∃ r d, p = some ⟨r, 0, none⟩ ∧ (∀ {G h : Heap} {L : List Heap}, Own G h L → c ∈ L → hcell (rd G h) ⟨r, 0 + 3, none⟩ = some (.pointer d)) ∧
  ∀ {G h : Heap} {L : List Heap} {K : Value → Heap → Prop} {Kp : PK}, Own G h L → c ∈ L → (∀ h' b pc, Sli eU8 (some ⟨b, 0, none⟩) (frames (s.its.map It.bytes)).length (frames (s.its.map It.bytes)).length (frames (s.its.map It.bytes)) pc → Own G h' (pc :: L) → K (.slice (some ⟨b, 0, none⟩) (frames (s.its.map It.bytes)).length (frames (s.its.map It.bytes)).length) h') → CallF Tryz.prog G 15 #[.pointer d] K Kp h := by
 obtain ⟨d, b, r, C, M, dc, dn, en, rv, hds, dcs, cc, cm, cb, c1, c2, c3, c4, hp, hcl, hb, hm, hd1, hd2, hdn, hen, hrv, hj⟩ := hq
 have op : ∀ {G h : Heap} {L R : List Heap}, Own G h L → (c :: R).Perm L → Own G h (single r (ruB C d b M (fun i => s.has i) (fun i => s.down i) dc dn en rv s.boots) :: cb :: cc 0 :: cc 1 :: cc 2 :: cm 0 :: cm 1 :: cm 2 :: c1 :: c2 :: c3 :: c4 :: (dcs ++ R)) := fun hO hR => (hO.perm hR).openJ hj
 refine ⟨r, d, hp, fun {G h L} hO hc => ?_, fun {G h L K Kp} hO hc hK => ?_⟩
 ·obtain ⟨R, hR⟩ := mem_perm hc; exact hcell_own (op hO hR) inferInstance (by with_unfolding_all rfl)
 ·obtain ⟨R, hR⟩ := mem_perm hc
  refine bookBytes (op hO hR) hb hfr fun h b2 pc hsl hO => hK _ _ _ hsl ?_
  have h1 := Own.closeWith (R := pc :: R) hj (hO.sp fun a => by simp only [cnt_app, List.append_eq, cnt_cons, cnt_nil, List.cons_append]; omega)
  exact h1.perm ((hR.symm.cons _).trans (List.Perm.swap _ _ _))
theorem lawRevCrash {pa : Option Addr} {l c : Nat} {xs : List Pl4} {q1 q2 q3 : Int} (hT : Gt G) (hg : Gl G) (hw : Gw G) (hO : Own G h L) (hr : RdA G ePl pa l xs) (hsm : l ≤ 9223372036854775807)
  (hK : ∀ h', Own G h' L → K (.bool true) h') :
  CallF Tryz.prog G 4 #[.agg #[.slice pa l c, .int .i64 q1, .int .i64 q2, .int .i64 q3]] K Kp h := by
 refine S4_ok ?_
 unfold S4
 refine newK.go hO ?_
 clear hO; intro r7 h hO
 (repeat (with_reducible first | refine NN.go ?_ | refine LdI.g hO ?_ | refine LdSl.g hO ?_ | refine LdP.g hO ?_ | refine LdM.g hO ?_ | refine LdB.g hO ?_ | refine cell_g hO ?_ | refine Rq.go (by omega) ?_ | refine Rng.go (by omega) ?_ | (refine st1.g hO ?_; clear hO; intro h hO; dsimp only [ad, List.set] at hO)))
 refine lawRan rinvs hT hg hw hO hr hsm fun h p p2 s c1 c2 hs hq hp2 hpq hO => ⟨_, _, _, rfl, If.f rfl ?_⟩
 have hO : Own G h (c1 :: L) := by (refine hO.sp fun a => ?_; simp only [cnt_app, List.append_eq, cnt_cons, cnt_nil]; omega)
 have hsz := hs.small
 have hil : s.its.length ≤ 4000 := by omega
 have hlens := hs.b.run.lens
 have hpl : ∀ pl ∈ s.its.map It.bytes, 1 ≤ pl.length ∧ pl.length ≤ 64 := fun pl hp => by
  obtain ⟨it, h1, rfl⟩ := List.mem_map.1 hp
  exact hlens it h1
 obtain ⟨r, d, dc1, dc3, dn1, dn3, en, rv, hds, v⟩ := hq.view
 obtain ⟨r', d', hp', hcd, hby⟩ := hq.bytes (by omega)
 obtain rfl := hp'
 refine NN.go (LdP.i (hcd hO (by simp)) (hby hO (by simp) fun h b2 pc hsl hO => ⟨_, _, _, rfl, Rng.go (by omega) ?_⟩))
 generalize hB : s.its.map It.bytes = pls at *
 generalize hN : (frames pls).length = N at *
 refine lawRest (by omega) fun cutI hcut => ⟨_, rfl, ?_⟩
 obtain ⟨cut, rfl⟩ : ∃ k : Nat, cutI = k := ⟨cutI.toNat, by omega⟩
 refine lawUntil v hO (by simp) hil fun m hm => ⟨_, _, rfl, Rq.go (by omega) ?_⟩
 rw [hB] at hm ⊢
 have hml : m ≤ s.its.length := by have := hm.le; rw [← hB, List.length_map] at this; exact this
 rw [Int.toNat_natCast]
 obtain ⟨tl, ht1, ht2, ht3⟩ := cut_split hpl hm (x := cut) (by omega)
 have hpre : ∀ {M : List Heap}, pc ∈ M → Rdl M eU8 (some ⟨b2, 0, none⟩) cut ((frames pls).take cut) := fun hM => (hsl.rdl hM).pre cut (by omega)
 refine lawBegins v hT hg hw hs hO (by simp) (m := m) (tl := tl) (by rw [hB, ← ht1]; exact hpre (by simp)) ht2 hml (by omega) (by rw [ht3]; simp only [beq_iff_eq]; omega) fun h hO => ⟨_, rfl, If.f rfl ?_⟩
 refine If.mk (fun _ => hK _ (by (refine hO.sp fun a => ?_; simp only [cnt_app, List.append_eq, cnt_cons, cnt_nil]; omega))) (fun e0 => ?_)
 have hc0 : 0 < cut := by
  have : cut ≠ 0 := by simpa using e0
  omega
 refine lawRest (by omega) fun atI hat => ⟨_, rfl, Rq.go (by omega) ?_⟩
 obtain ⟨at_, rfl⟩ : ∃ k : Nat, atI = k := ⟨atI.toNat, by omega⟩
 rw [Int.toNat_natCast]
 have hat2 : at_ < cut := by omega
 refine lawCopied hO (hpre (by simp)) (by omega) fun h b3 pc3 hs3 hO => ⟨_, _, _, rfl, Rq.go (by omega) (NN.go ?_)⟩
 have hlen : ((frames pls).take cut).length = cut := by rw [List.length_take]; omega
 obtain ⟨x, hx, hxc⟩ : ∃ x, ((frames pls).take cut)[at_]? = some x ∧ ∀ {h : Heap} {M : List Heap}, Own G h M → pc3 ∈ M → hcell (rd G h) ((⟨b3, 0, none⟩ : Addr).add (Int.toNat (at_ : Int) * 1)) = some (.int .u8 x.toNat) := by
  refine ⟨_, List.getElem?_eq_getElem (by omega), fun {h M} hO hM => ?_⟩
  obtain ⟨y, hy, hn'⟩ := (hs3.rdl hM).at eU8_ok hO (i := (at_ : Int)) (by omega) (by omega)
  rw [Int.toNat_natCast, List.getElem?_eq_getElem (by omega)] at hy
  cases hy
  exact hn' (fun a => hcell (rd G h) (a.add (Int.toNat (at_ : Int) * 1)) = some (.int .u8 ((frames pls).take cut)[at_].toNat)) fun a ha hc => hc 0 _ rfl
 refine LdI.i (hxc hO (by simp)) ?_
 refine lawRest (by omega) fun mk hmk => ⟨_, rfl, hxc hO (by simp), Rng.go (by omega) (Rq.go (by omega) (NN.go ?_))⟩
 obtain ⟨y, hy, hne⟩ := xor8 (x := x) (k := mk + 1) (by omega)
 rw [hy, add_mk]
 refine Sli_st eU8_ok (i := at_) (j := 0) (x := x) (y := y) hO hs3 (.refl _) hx (by decide) rfl rfl rfl (by simp [eU8]) fun h pc4 hs4 hO => ?_
 refine lawUntil v hO (by simp) hil fun m2 hm2 => ⟨_, _, rfl, ?_⟩
 rw [hB] at hm2
 have hml2 : m2 ≤ s.its.length := by have := hm2.le; rw [← hB, List.length_map] at this; exact this
 obtain ⟨tl2, g1, g2, g3⟩ := spoil_split hpl hm2 (cut := cut) (y := y) (by omega) hat2 (by
  intro e
  rw [List.getElem?_take, if_pos hat2] at hx
  rw [hx] at e
  exact hne (Option.some.inj e))
 rw [g1] at hs4
 exact lawBegins v hT hg hw hs hO (by simp) (m := m2) (tl := tl2) (by rw [hB]; exact hs4.rdl (by simp)) g2 hml2 (by omega) (by simp [g3]) fun h hO => ⟨_, rfl, hK _ (by (refine hO.sp fun a => ?_; simp only [cnt_app, List.append_eq, cnt_cons, cnt_nil]; omega))⟩
end Go.Sl
set_option maxRecDepth 100000
namespace Go.Sl
open Go Go.Proofs
variable {G h : Heap} {L R : List Heap} {K : Value → Heap → Prop} {Kp : PK}
/-! From a world to the heaps of the proofs. -/
def Wh (W : World) : Heap := fun n => W.heap[n]?
theorem hcell_Wh (W : World) (a : Addr) : hcell (Wh W) a = W.cell? a := by
 unfold hcell Wh World.cell?
 cases W.heap[a.block]? with
 | none => rfl
 | some o => cases o <;> rfl
theorem fr_Wh (W : World) : Fr (Wh W) W emp ⟨emp, W.os, W.output⟩ :=
 ⟨fun _ => .inl rfl, fun n o h => (by cases h), fun n o h => (by cases h), fun n o h => ⟨h, rfl⟩, rfl, rfl⟩
theorem own_Wh (W : World) : Own (Wh W) emp [] := ⟨fun _ => .inl rfl, .nil, fun c hc => by cases hc⟩
theorem cell_Wh {W : World} {h : Heap} {L : List Heap} (hO : Own (Wh W) h L) {a : Addr} {v : Value} (hc : W.cell? a = some v) : hcell (rd (Wh W) h) a = some v := by
 have h1 : hcell (Wh W) a = some v := by rw [hcell_Wh]; exact hc
 unfold hcell at h1 ⊢
 obtain ⟨o, ho, hv⟩ := Option.bind_eq_some_iff.1 h1
 have h2 : rd (Wh W) h a.block = some o := by
  unfold rd
  rw [(hO.g a.block).resolve_right (by rw [ho]; simp)]
  exact ho
 rw [h2]; exact hv
theorem rdA_Wh {α : Type} {e : En α} {W : World} {a : Addr} {l : Nat} {xs : List α} (hl : l = xs.length) (h : ∀ i v, (e.F xs)[i]? = some v → W.cell? (a.add i) = some v) : RdA (Wh W) e (some a) l xs :=
 fun _ _ hO => ⟨hl, fun i v hv => cell_Wh hO (h i v hv)⟩
theorem rdA_nil {α : Type} {e : En α} {W : World} : RdA (Wh W) e none 0 ([] : List α) := fun _ _ _ => ⟨rfl, rfl⟩
/-- A call, out of what the proofs say of it. -/
theorem callSl_inv {P : Program} {G : Heap} {f : FuncId} {fn : Func} {args : Array Value} {h : Heap} (hf : P.funcs[f]? = some fn) (hb : fn.body.isNone = false)
  (hn : (fn.name == "runtime.NumGoroutine") = false) (hh : CallF P G f args K Kp h) : CallSl P G f args K Kp h := by
 have hh := hh.run
 unfold slN callFunc at hh
 have e : ∀ (k : Program → Sem Next) (K : Next → Heap → Prop) (Kp : Value → Heap → Prop), sl P G ((program : Sem Program) >>= k) K Kp h → sl P G (k P) K Kp h := fun k K Kp h => h
 have h2 := e _ _ _ hh
 simp only [hf, hn, hb, Bool.false_eq_true, if_false] at h2
 exact h2
/-- What lies behind a call that owns nothing: all that was there is there still. -/
theorem call_world {P : Program} {f : FuncId} {fn : Func} {args : Array Value} {W : World} {r : Value} (hf : P.funcs[f]? = some fn) (hb : fn.body.isNone = false) (hn : (fn.name == "runtime.NumGoroutine") = false)
  (hh : CallF P (Wh W) f args (fun v _ => v = r) (fun _ _ => False) emp) :
  Calls P f args W fun e W' => e = .returned r ∧ ∃ W'', W'.Alike W'' ∧ RowKit.Below W.heap.size W W'' := by
 refine (callSl_inv hf hb hn hh W _ (fr_Wh W)).mono fun e W' he => ?_
 cases e with
 | outgrown => exact he.elim
 | panicked c => obtain ⟨_, h, _⟩ := he; exact h.elim
 | returned v =>
  obtain ⟨h', rfl, fr⟩ := he
  have hold : ∀ k o, W.heap[k]? = some o → W'.heap[k]? = some o := fun k o ho => (fr.glob k o ho).1
  refine ⟨rfl, { W with heap := W'.heap }, ⟨rfl, fr.same.1, fr.same.2⟩, rfl, rfl, rfl, ?_, fun k hk => ?_⟩
  ·show W.heap.size ≤ W'.heap.size
   rcases Nat.eq_zero_or_pos W.heap.size with h0 | h0
   ·omega
   ·have := hold (W.heap.size - 1) _ (Array.getElem?_eq_getElem (by omega))
    have := (Array.getElem?_eq_some_iff.1 this).1
    omega
  ·have := hold k _ (Array.getElem?_eq_getElem hk)
   show W'.heap[k]? = W.heap[k]?
   rw [this, Array.getElem?_eq_getElem hk]
theorem slice_ofc {H : Type} {enc : TypeId × Value → H} {P : Program} {W : World} {α : Type} {e : En α} {t eT : TypeId} {v : Value} {y0 : DataW H × List MemPlace} {fuel : Nat} (ok : e.Ok) (ht : P.underlying t = some (.slice eT)) (hc : P.cellsOf eT = e.m)
  (hel : ∀ n cs y, DataW.trod enc P W 0 (fun _ => true) true n eT cs = some y → ∃ x, cs = e.E x) (h : DataW.trod enc P W 0 (fun _ => true) true fuel t [v] = some y0) :
  ∃ pa l c xs, v = .slice pa l c ∧ RdA (Wh W) e pa l xs ∧ l ≤ 9223372036854775807 := by
 rcases DataW.trod_slice ht h with ⟨h1, _⟩ | ⟨a, len, cap, elems, rest, n, _, h1, _, _, hl, hcap, hlen, hE, _⟩
 ·cases h1
  exact ⟨none, 0, 0, [], rfl, rdA_nil, by omega⟩
 ·cases h1
  have hx : ∀ i, ∃ x, i < len → ∀ j v, (e.E x)[j]? = some v → W.cell? (a.add (i * e.m + j)) = some v := fun i => by
   by_cases hi : i < len
   ·have h2 := hE i hi
    have h3 : elems[i]? = some (elems[i]'(by omega)) := List.getElem?_eq_getElem _
    rw [h3] at h2
    obtain ⟨cs, h4, h5⟩ := Option.bind_eq_some_iff.1 h2
    obtain ⟨x, rfl⟩ := hel _ _ _ h5
    refine ⟨x, fun _ j v hj => ?_⟩
    have hjm : j < e.m := by rw [← ok.hm x]; exact (List.getElem?_eq_some_iff.1 hj).1
    rw [hc] at h4
    have h6 := (World.cells?_some h4).2.2 j hjm
    have hadd : (a.add (i * e.m)).add j = a.add (i * e.m + j) := by
     unfold Addr.add
     by_cases h1 : i * e.m = 0
     ·simp [h1]
     ·by_cases h2 : j = 0
      ·simp [h1, h2]
      ·simp [h1, h2, Nat.add_assoc]
    rw [← hadd, h6]; exact hj
   ·exact ⟨e.z, fun h => absurd h hi⟩
  obtain ⟨f, hf⟩ := Classical.skolem.1 hx
  refine ⟨some a, len, cap, (List.range len).map f, rfl, rdA_Wh (by simp) fun i v hv => ?_, by unfold maxLen at hcap; omega⟩
  have hpos := ok.pos
  have hlt : i < (e.F ((List.range len).map f)).length := (List.getElem?_eq_some_iff.1 hv).1
  rw [En.F_len ok, List.length_map, List.length_range] at hlt
  have hi : i / e.m < len := Nat.div_lt_of_lt_mul (by rw [Nat.mul_comm]; exact hlt)
  have hj : i % e.m < e.m := Nat.mod_lt _ hpos
  have hdm : i / e.m * e.m + i % e.m = i := by rw [Nat.mul_comm]; exact Nat.div_add_mod i e.m
  rw [← hdm]
  refine hf (i / e.m) hi (i % e.m) v ?_
  rw [← hdm, En.F_get ok (i := i / e.m) (x := f (i / e.m)) (by rw [List.getElem?_map, List.getElem?_range hi]; rfl) hj] at hv
  exact hv
end Go.Sl
