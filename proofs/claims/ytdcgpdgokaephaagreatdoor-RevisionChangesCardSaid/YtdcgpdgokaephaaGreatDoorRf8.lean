/- P18.7: the changes turn the one text into the other. Part 8 of 12. -/
import Derived.Shelf.Sort.Plain
import Derived.Shelf.Slices.In.SortNone
import Derived.Lib.SortBridge
import Derived.RangeFuncBox
import Derived.Shelf.Abstract
import Derived.WalkKit
import Derived.OwnWalkIn
import Derived.TacticsInMore
import Derived.LoopNIn
import Derived.LoopIn
import Derived.RangeFuncRecord
import Derived.Test.YtdcgpdgokaephaaGreatDoorRf7
set_option linter.unusedVariables false
set_option linter.unusedSimpArgs false
set_option linter.unusedSectionVars false
set_option maxRecDepth 100000
namespace Go.Sl
open Go Go.Proofs
variable {G h : Heap} {L R : List Heap} {K : Value -> Heap -> Prop} {Kp : PK}
def Ru.upped (s : Ru) (i : Nat) (e : Ed) (hd : Hd) : Ru := { s with has := upd s.has i (s.has i + 1), bk := s.bk.taken e hd, its := s.its ++ [.edit e] }
structure UpOk (s : Ru) (i : Nat) (e : Ed) (hd : Hd) : Prop where
 he : (s.mine i)[s.has i]? = some e
 can : s.bk.Can e hd
 tak : s.bk.Tak e hd
 tg : 0 <= e.tag /\ e.tag <= 4096
 fp : FitP 4000 e.op
 fr : (frames (s.its.map It.bytes)).length <= 200000
 de : s.bk.done.length = s.bk.edits.length
 ed : s.bk.edits.length < 4000
 il : s.its.length <= 4000
 fit : Fit (s.bk.done ++ [(hd.step e).1])
 cn : s.its.countP isEdit = s.bk.done.length
theorem runUp {p : Option Addr} {s : Ru} {c : Heap} {i : Nat} (hT : Gt G) (hg : Gl G) (hw : Gw G) (hO : Own G h L) [t : Take L c R] (hq : RunP p s c) (hi : i < 3) (hm64 : (s.mine i).length <= 64) (hup : s.has i < (s.mine i).length -> ∃ e hd, UpOk s i e hd)
  (hK0 : ¬ s.has i < (s.mine i).length -> ∀ h', Own G h' L -> K (.bool true) h')
  (hK1 : ∀ h' c' e hd, s.has i < (s.mine i).length -> UpOk s i e hd -> RunP p (s.upped i e hd) c' -> Own G h' (c' :: R) -> K (.bool true) h') :
  CallF Tryz.prog G 32 #[.pointer p, .int .i64 i] K Kp h := by
 refine S32_ok ?_
 unfold S32
 obtain ⟨d, b, r, C, M, dc, dn, en, rv, hs, dcs, cc, cm, cb, c1, c2, c3, c4, rfl, hcl, hb, hm, hd1, hd2, hdn, hen, hrv, hj⟩ := hq
 have back : ∀ {h : Heap} {X : List Heap}, Own G h (X ++ (single r (ruB C d b M (λ i => s.has i) (λ i => s.down i) dc dn en rv s.boots) :: cc i :: cm i :: cb :: c1 :: c2 :: c3 :: c4 :: (oth i cc ++ (oth i cm ++ (dcs ++ R))))) -> Own G h L := λ {h X} hO => by
  refine Own.reclose hj t.perm (hO.sp λ a => ?_)
  have e1 := oth_cnt hi cc a
  have e2 := oth_cnt hi cm a
  simp only [cnt_app, List.append_eq, cnt_cons, cnt_nil, List.cons_append]; omega
 (have hO := (hO.perm t.perm).openJ hj; simp only [List.cons_append, List.nil_append] at hO)
 replace hO := run_split hi hO
 have hml := (hm i hi).len
 refine NN.go ?_
 refine Rq.go (by omega) ?_
 rw [add_mk, Int.toNat_natCast]
 refine LdI.go hO (ru_H hi) ?_
 refine NN.go ?_
 refine Rq.go (by omega) ?_
 rw [add_mk]
 refine LdSl.go hO (ru_M hi) ?_
 refine If.dec (λ e => hK0 (by omega) _ (back (X := []) hO)) (λ e => ?_)
 have hlt : s.has i < (s.mine i).length := by omega
 obtain ⟨ed, hd, ok⟩ := hup hlt
 refine NN.go ?_
 refine Rq.go (by omega) ?_
 rw [add_mk]
 refine LdSl.go hO (ru_M hi) ?_
 refine NN.go ?_
 refine Rq.go (by omega) ?_
 rw [add_mk]
 refine LdI.go hO (ru_H hi) ?_
 refine Rq.go (by omega) ?_
 obtain ⟨y, hy, hn'⟩ := ((hm i hi).rdO hO (by simp)).at eEd_ok hO (i := (s.has i : Int)) (by omega) (by omega)
 rw [Int.toNat_natCast, ok.he] at hy
 cases hy
 refine hn' _ λ a ha hc => ?_
 refine LdI.i (hc 0 _ rfl) (LdI.i (hc 1 _ rfl) (LdI.i (hc 2 _ rfl) (LdI.i (hc 3 _ rfl) (LdI.i (hc 4 _ rfl) (LdI.i (hc 5 _ rfl) ?_)))))
 clear hc hn'
 refine newK.go hO ?_
 clear hO; intro r22 h hO
 obtain ⟨z, hz, hn'⟩ := ((hm i hi).rdO hO (by simp)).at eEd_ok hO (i := (s.has i : Int)) (by omega) (by omega)
 rw [Int.toNat_natCast, ok.he] at hz
 cases hz
 have hcs : ∀ j v, (eEd.E ed)[j]? = some v -> hcell (rd G h) ((a.add ((s.has i : Int).toNat * eEd.m)).add j) = some v := by
  have := hn' (λ a => ∀ j v, (eEd.E ed)[j]? = some v -> hcell (rd G h) ((a.add ((s.has i : Int).toNat * eEd.m)).add j) = some v) (λ a ha hc => hc)
  rw [ha] at this
  exact this
 refine ⟨hcs 0 _ rfl, hcs 1 _ rfl, hcs 2 _ rfl, hcs 3 _ rfl, hcs 4 _ rfl, hcs 5 _ rfl, ?_⟩
 clear hcs hn'
 refine cell_go hO (ru_H hi) ?_
 refine cell_go hO (ru_M hi) ?_
 (repeat (with_reducible first | refine NN.go ?_ | refine LdI.g hO ?_ | refine LdSl.g hO ?_ | refine LdP.g hO ?_ | refine LdM.g hO ?_ | refine LdB.g hO ?_ | refine cell_g hO ?_ | refine Rq.go (by omega) ?_ | refine Rng.go (by omega) ?_ | (refine st1.g hO ?_; clear hO; intro h hO; dsimp only [ad, List.set] at hO)))
 rw [add_mk]
 refine LdI.go hO (ru_H hi) ?_
 refine Rng.go (by omega) ?_
 refine NN.go ?_
 refine Rq.go (by omega) ?_
 rw [add_mk]
 refine st1.go hO (ru_sH hi ((s.has i : Int) + 1)) ?_
 clear hO; intro h hO
 (repeat (with_reducible first | refine NN.go ?_ | refine LdI.g hO ?_ | refine LdSl.g hO ?_ | refine LdP.g hO ?_ | refine LdM.g hO ?_ | refine LdB.g hO ?_ | refine cell_g hO ?_ | refine Rq.go (by omega) ?_ | refine Rng.go (by omega) ?_ | (refine st1.g hO ?_; clear hO; intro h hO; dsimp only [ad, List.set] at hO)))
 have hH : upd (λ i => ((s.has i : Nat) : Int)) i ((s.has i : Int) + 1) = λ j => (((upd s.has i (s.has i + 1)) j : Nat) : Int) := by
  funext j
  by_cases hji : j = i
  ·subst hji; rw [upd_self, upd_self]; rfl
  ·rw [upd_ne hji, upd_ne hji]
 rw [hH] at hO
 have fin : ∀ {h : Heap} {r2 : Nat} {o : Op} {cb : Heap}, (hd.step ed).1 = o -> BookP b d (s.bk.taken ed hd) ((s.its ++ [It.edit ed]).map It.bytes) s.syn cb ->
   Own G h (single r2 (.cells #[.int .i64 o.kind, .int .i64 o.pos, .int .u8 o.ch, .int .i64 o.client, .int .i64 o.seq] 84 (0, 0)) :: single r (ruB C d b M (λ j => (((upd s.has i (s.has i + 1)) j : Nat) : Int)) (λ i => s.down i) dc dn en rv s.boots) :: cc i :: cm i :: cb :: c1 :: c2 :: c3 :: c4 :: (oth i cc ++ (oth i cm ++ (dcs ++ R)))) ->
   S32_k1 G K Kp (some ⟨r, 0, none⟩) ((s.bk.edits.length + 1 : Nat) : Int) ⟨r2, 0, none⟩ 0 h := λ {h r2 o cb} hst hb hO => by
  obtain ⟨dn1, dn2, dn3⟩ := dn
  obtain ⟨dc1, dc2, dc3⟩ := dc
  simp only at hdn hd1
  have e3 := hdn.len
  have e1 := hd1.len
  have e1b := hd2.l1
  have hdl : (docsOf s.bk.done).length = s.bk.done.length + 1 := by simp [docsOf]
  have hde := ok.de
  have hed := ok.ed
  have hil := ok.il
  unfold S32_k1
  refine lawNum ⟨_, rfl, If.f rfl ?_⟩
  (repeat (with_reducible first | refine NN.go ?_ | refine LdI.g hO ?_ | refine LdSl.g hO ?_ | refine LdP.g hO ?_ | refine LdM.g hO ?_ | refine LdB.g hO ?_ | refine cell_g hO ?_ | refine Rq.go (by omega) ?_ | refine Rng.go (by omega) ?_ | (refine st1.g hO ?_; clear hO; intro h hO; dsimp only [ad, List.set] at hO)))
  dsimp only
  refine Rng.go (by omega) ?_
  unfold S32_k2
  refine If.f (by rw [bne_eq_false_iff_eq]; omega) ?_
  (repeat (with_reducible first | refine NN.go ?_ | refine LdI.g hO ?_ | refine LdSl.g hO ?_ | refine LdP.g hO ?_ | refine LdM.g hO ?_ | refine LdB.g hO ?_ | refine cell_g hO ?_ | refine Rq.go (by omega) ?_ | refine Rng.go (by omega) ?_ | (refine st1.g hO ?_; clear hO; intro h hO; dsimp only [ad, List.set] at hO)))
  have htd : (s.bk.taken ed hd).done = s.bk.done ++ [o] := by unfold Bk.taken; rw [hst]
  have hte : (s.bk.taken ed hd).edits.length = s.bk.edits.length + 1 := by simp [Bk.taken]
  have htk : (s.bk.taken ed hd).done.take (((s.bk.edits.length + 1 : Nat) : Int)).toNat = s.bk.done ++ [o] := by
   rw [htd, Int.toNat_natCast, List.take_of_length_le (by simp; omega)]
  have hfit := ok.fit
  rw [hst] at hfit
  refine bookDoc hO hb (by rw [hte]; omega) (by rw [htd, hte, List.length_append, List.length_singleton]; omega) (by rw [hte]; omega) (by rw [htk]; exact hfit) λ h dp dl dk pd hsd hO => ⟨_, _, _, _, rfl, ?_⟩
  rw [htk] at hsd
  (repeat (with_reducible first | refine NN.go ?_ | refine LdI.g hO ?_ | refine LdSl.g hO ?_ | refine LdP.g hO ?_ | refine LdM.g hO ?_ | refine LdB.g hO ?_ | refine cell_g hO ?_ | refine Rq.go (by omega) ?_ | refine Rng.go (by omega) ?_ | (refine st1.g hO ?_; clear hO; intro h hO; dsimp only [ad, List.set] at hO)))
  refine newK.go hO ?_
  clear hO; intro r78 h hO
  (repeat (with_reducible first | refine NN.go ?_ | refine LdI.g hO ?_ | refine LdSl.g hO ?_ | refine LdP.g hO ?_ | refine LdM.g hO ?_ | refine LdB.g hO ?_ | refine cell_g hO ?_ | refine Rq.go (by omega) ?_ | refine Rng.go (by omega) ?_ | (refine st1.g hO ?_; clear hO; intro h hO; dsimp only [ad, List.set] at hO)))
  refine append1 tOp hO hdn (y := o) rfl (by omega) λ h p5 k5 c5 hs5 hO => ⟨_, _, _, rfl, ?_⟩
  (repeat (with_reducible first | refine NN.go ?_ | refine LdI.g hO ?_ | refine LdSl.g hO ?_ | refine LdP.g hO ?_ | refine LdM.g hO ?_ | refine LdB.g hO ?_ | refine cell_g hO ?_ | refine Rq.go (by omega) ?_ | refine Rng.go (by omega) ?_ | (refine st1.g hO ?_; clear hO; intro h hO; dsimp only [ad, List.set] at hO)))
  refine newK.go hO ?_
  clear hO; intro r88 h hO
  refine append1 tDc hO hd1 (y := (dp, dl, dk)) rfl (by omega) λ h p6 k6 c6 hs6 hO => ⟨_, _, _, rfl, ?_⟩
  (repeat (with_reducible first | refine NN.go ?_ | refine LdI.g hO ?_ | refine LdSl.g hO ?_ | refine LdP.g hO ?_ | refine LdM.g hO ?_ | refine LdB.g hO ?_ | refine cell_g hO ?_ | refine Rq.go (by omega) ?_ | refine Rng.go (by omega) ?_ | (refine st1.g hO ?_; clear hO; intro h hO; dsimp only [ad, List.set] at hO)))
  have hO2 : Own G h ((single r (ruB C d b M (λ j => (((upd s.has i (s.has i + 1)) j : Nat) : Int)) (λ i => s.down i) (p6, dc2 + 1, k6) (p5, dn2 + 1, k5) en rv s.boots) :: cb :: cc 0 :: cc 1 :: cc 2 :: cm 0 :: cm 1 :: cm 2 :: c6 :: c5 :: c3 :: c4 :: (dcs ++ [pd])) ++ R) := hO.sp λ a => by
   have e1 := oth_cnt hi cc a
   have e2 := oth_cnt hi cm a
   simp only [ruB, cnt_app, List.append_eq, cnt_cons, cnt_nil, List.cons_append]; omega
  obtain ⟨cj, hj, hO⟩ := Own.closeE hO2
  have hq : RunQ (some ⟨r, 0, none⟩) (s.upped i ed hd) (endsI s.its) (revsI s.its) (docsOf s.bk.done ++ [replayD (s.bk.done ++ [o])]) (s.bk.done ++ [o]) cj :=
   ⟨d, b, r, C, M, (p6, dc2 + 1, k6), (p5, dn2 + 1, k5), en, rv, hs ++ [(dp, dl, dk)], dcs ++ [pd], cc, cm, cb, c6, c5, c3, c4, rfl, hcl, hb, hm, hs6, hd2.snoc hsd.rs ⟨hsd.cap, hsd.flat⟩, hs5, hen, hrv, hj⟩
  refine runGrown hO hq (by simp [endsI]; omega) (by simp [revsI]; omega) (by simp; omega) λ h cj hq hO => ⟨rfl, lawNum ⟨_, rfl, ?_⟩⟩
  refine hK1 _ _ ed hd hlt ok ?_ hO
  unfold RunP
  have h1 : (s.upped i ed hd).its = s.its ++ [.edit ed] := rfl
  have h2 : (s.upped i ed hd).bk.done = s.bk.done ++ [o] := htd
  rw [h2, h1, endsI_snoc, revsI_snoc, docsOf_snoc]
  have h3 : (((s.its ++ [It.edit ed]).countP isEdit : Nat) : Int) = (((s.bk.done ++ [o]).length : Nat) : Int) := by
   rw [List.countP_append, ok.cn]; simp [isEdit]
  rw [h3]
  exact hq
 refine ⟨?_, ?_⟩
 ·refine bookAdd (e := ed) (hd := hd) hT hg hw hO hb ok.can ok.tak ok.tg ok.fp ok.fr λ h cb' hb' hO => ⟨_, _, _, _, _, _, _, rfl, ?_⟩
  refine newK.go hO ?_
  clear hO; intro r41 h hO
  (repeat (with_reducible first | refine NN.go ?_ | refine LdI.g hO ?_ | refine LdSl.g hO ?_ | refine LdP.g hO ?_ | refine LdM.g hO ?_ | refine LdB.g hO ?_ | refine cell_g hO ?_ | refine Rq.go (by omega) ?_ | refine Rng.go (by omega) ?_ | (refine st1.g hO ?_; clear hO; intro h hO; dsimp only [ad, List.set] at hO)))
  exact fin (o := (hd.step ed).1) rfl (by rw [List.map_append]; exact hb') (by (refine hO.sp λ a => ?_; simp only [cnt_app, List.append_eq, cnt_cons, cnt_nil]; omega))
 ·refine newK.go hO ?_
  clear hO; intro r43 h hO
  (repeat (with_reducible first | refine NN.go ?_ | refine LdI.g hO ?_ | refine LdSl.g hO ?_ | refine LdP.g hO ?_ | refine LdM.g hO ?_ | refine LdB.g hO ?_ | refine cell_g hO ?_ | refine Rq.go (by omega) ?_ | refine Rng.go (by omega) ?_ | (refine st1.g hO ?_; clear hO; intro h hO; dsimp only [ad, List.set] at hO)))
  refine bookAdd (e := ed) (hd := hd) hT hg hw hO hb ok.can ok.tak ok.tg ok.fp ok.fr λ h cb' hb' hO => ⟨_, _, _, _, _, _, _, rfl, ?_⟩
  (repeat (with_reducible first | refine NN.go ?_ | refine LdI.g hO ?_ | refine LdSl.g hO ?_ | refine LdP.g hO ?_ | refine LdM.g hO ?_ | refine LdB.g hO ?_ | refine cell_g hO ?_ | refine Rq.go (by omega) ?_ | refine Rng.go (by omega) ?_ | (refine st1.g hO ?_; clear hO; intro h hO; dsimp only [ad, List.set] at hO)))
  exact fin (o := (hd.step ed).1) rfl (by rw [List.map_append]; exact hb') (by (refine hO.sp λ a => ?_; simp only [cnt_app, List.append_eq, cnt_cons, cnt_nil]; omega))
end Go.Sl
set_option maxRecDepth 100000
namespace Go.Sl
open Go Go.Proofs
variable {G h : Heap} {L R : List Heap} {K : Value -> Heap -> Prop} {Kp : PK}
def Ru.downed (s : Ru) (i : Nat) (o : Op) : Ru := { s with down := upd s.down i (s.down i + 1), cl := upd s.cl i ((s.cl i).recvd o) }
structure DownOk (s : Ru) (i : Nat) (o : Op) : Prop where
 ho : s.bk.done[s.down i]? = some o
 acc : (s.cl i).Acc o
 hx : (s.cl i).held = none
 cum : (s.cl i).cum = s.down i
 base : (s.cl i).base = 0
 ep : (s.cl i).epoch = 1
 id : (s.cl i).id = i + 1
 hav : 0 <= (s.cl i).have_ /\ (s.cl i).have_ <= 100000
 sm : s.down i < 4000
 dl : s.bk.done.length <= 4000
theorem runDown {p : Option Addr} {s : Ru} {c : Heap} {i : Nat} (hT : Gt G) (hg : Gl G) (hw : Gw G) (hO : Own G h L) [t : Take L c R] (hq : RunP p s c) (hi : i < 3) (hdo : s.down i < s.bk.done.length -> ∃ o, DownOk s i o)
  (hK0 : ∀ h', Own G h' L -> K (.bool true) h')
  (hK1 : ∀ h' c' o, s.down i < s.bk.done.length -> DownOk s i o -> RunP p (s.downed i o) c' -> Own G h' (c' :: R) -> K (.bool true) h') :
  CallF Tryz.prog G 53 #[.pointer p, .int .i64 i] K Kp h := by
 refine S53_ok ?_
 unfold S53
 obtain ⟨d, b, r, C, M, dc, dn, en, rv, hs, dcs, cc, cm, cb, c1, c2, c3, c4, rfl, hcl, hb, hm, hd1, hd2, hdn, hen, hrv, hj⟩ := hq
 have back : ∀ {h : Heap} {X : List Heap}, Own G h (X ++ (single r (ruB C d b M (λ i => s.has i) (λ i => s.down i) dc dn en rv s.boots) :: cc i :: cm i :: cb :: c1 :: c2 :: c3 :: c4 :: (oth i cc ++ (oth i cm ++ (dcs ++ R))))) -> Own G h L := λ {h X} hO => by
  refine Own.reclose hj t.perm (hO.sp λ a => ?_)
  have e1 := oth_cnt hi cc a
  have e2 := oth_cnt hi cm a
  simp only [cnt_app, List.append_eq, cnt_cons, cnt_nil, List.cons_append]; omega
 (have hO := (hO.perm t.perm).openJ hj; simp only [List.cons_append, List.nil_append] at hO)
 replace hO := run_split hi hO
 obtain ⟨dn1, dn2, dn3⟩ := dn
 simp only at hdn
 have e3 := hdn.len
 refine NN.go ?_
 refine Rq.go (by omega) ?_
 rw [add_mk, Int.toNat_natCast]
 refine LdI.go hO (ru_D hi) ?_
 refine NN.go ?_
 refine LdSl.g hO ?_
 dsimp only
 refine If.dec (λ e => hK0 _ (back (X := []) hO)) (λ e => ?_)
 have hlt : s.down i < s.bk.done.length := by omega
 obtain ⟨o, ok⟩ := hdo hlt
 have sm := ok.sm
 have hdl := ok.dl
 refine NN.go ?_
 refine Rq.go (by omega) ?_
 rw [add_mk]
 refine LdI.go hO (ru_D hi) ?_
 refine Rng.go (by omega) ?_
 refine NN.go ?_
 refine Rq.go (by omega) ?_
 rw [add_mk]
 refine st1.go hO (ru_sD hi ((s.down i : Int) + 1)) ?_
 clear hO; intro h hO
 have hH : upd (λ i => ((s.down i : Nat) : Int)) i ((s.down i : Int) + 1) = λ j => (((upd s.down i (s.down i + 1)) j : Nat) : Int) := by
  funext j
  by_cases hji : j = i
  ·subst hji; rw [upd_self, upd_self]; rfl
  ·rw [upd_ne hji, upd_ne hji]
 rw [hH] at hO
 refine NN.go ?_
 refine Rq.go (by omega) ?_
 rw [add_mk]
 refine LdP.go hO (ru_C hi) ?_
 refine Rng.go (by omega) ?_
 refine NN.go ?_
 refine LdSl.g hO ?_
 dsimp only
 refine Rng.go (by omega) ?_
 refine Rq.go (by omega) ?_
 obtain ⟨y, hy, hn'⟩ := (hdn.rdO hO (by simp)).at eOp_ok hO (i := (s.down i : Int) + 1 - 1) (by omega) (by omega)
 rw [show ((s.down i : Int) + 1 - 1).toNat = s.down i by omega, ok.ho] at hy
 cases hy
 refine hn' _ λ a ha hc => ?_
 refine LdI.i (hc 0 _ rfl) (LdI.i (hc 1 _ rfl) (LdI.i (hc 2 _ rfl) (LdI.i (hc 3 _ rfl) (LdI.i (hc 4 _ rfl) ?_))))
 have hcum := ok.cum
 have hba := ok.base
 refine givenRec (x := s.cl i) (o := o) (ep := 1) (id := (i : Int) + 1) (num := (s.down i : Int) + 1) (rev := (s.down i : Int) + 1) hT hg hw hO (hcl i hi) ok.hx ok.acc (by omega) (by omega) ok.hav ok.ep.symm ok.id.symm (by omega) (by omega) ⟨by decide, by omega, .inr (.inr ⟨rfl, by omega, by omega, by omega, by omega, ok.acc.fit⟩)⟩ λ h ci hci hO => ⟨_, rfl, ?_⟩
 have hO2 : Own G h ((single r (ruB C d b M (λ i => s.has i) (λ j => (((upd s.down i (s.down i + 1)) j : Nat) : Int)) dc (dn1, dn2, dn3) en rv s.boots) :: cb :: upd cc i ci 0 :: upd cc i ci 1 :: upd cc i ci 2 :: cm 0 :: cm 1 :: cm 2 :: c1 :: c2 :: c3 :: c4 :: dcs) ++ R) := hO.sp λ a => by
  have e1 := oth_upd hi cc ci a
  have e2 := oth_cnt hi cm a
  simp only [cnt_app, List.append_eq, cnt_cons, cnt_nil, List.cons_append]; omega
 obtain ⟨cj, hj, hO⟩ := Own.closeE hO2
 refine hK1 _ _ o hlt ok ⟨d, b, r, C, M, dc, (dn1, dn2, dn3), en, rv, hs, dcs, upd cc i ci, cm, cb, c1, c2, c3, c4, rfl, ?_, hb, hm, hd1, hd2, hdn, hen, hrv, hj⟩ hO
 intro j hj
 show ClientP (C j) (upd s.cl i ((s.cl i).recvd o) j) _
 by_cases hji : j = i
 ·subst hji; rw [upd_self, upd_self]; exact hci
 ·rw [upd_ne hji, upd_ne hji]; exact hcl j hj
def Ru.booted (s : Ru) : Ru := { s with boots := s.boots + 1, bk := s.bk.started, its := s.its ++ [.boot (s.bk.epoch + 1)] }
structure BootOk (s : Ru) : Prop where
 ep : 0 <= s.bk.epoch /\ s.bk.epoch < 255
 el : s.bk.edited.length <= 4000
 fr : (frames (s.its.map It.bytes)).length <= 200000
 il : s.its.length <= 4000
 dl : s.bk.done.length <= 4000
 cn : s.its.countP isEdit = s.bk.done.length
structure SyncOk (s : Ru) : Prop where
 pl : s.its.length <= 4000
 fr : (frames (s.its.map It.bytes)).length <= 200000
 sn : s.syn <= (frames (s.its.map It.bytes)).length
 el : s.bk.edited.length = s.its.length
 ev : ∀ v ∈ s.bk.edited, 0 <= v /\ v <= 100000
structure Good (s : Ru) : Prop where
 m64 : ∀ i, i < 3 -> (s.mine i).length <= 64
 can : ∀ i, i < 3 -> (s.mine i).length < 64 -> (s.cl i).Can
 tx : ∀ i, i < 3 -> (s.cl i).text.length <= 3999
 up : ∀ i, i < 3 -> s.has i < (s.mine i).length -> ∃ e hd, UpOk s i e hd
 down : ∀ i, i < 3 -> s.down i < s.bk.done.length -> ∃ o, DownOk s i o
 boot : s.boots < 100 -> BootOk s
 sync : SyncOk s
end Go.Sl
set_option maxRecDepth 100000
namespace Go.Sl
open Go Go.Proofs
variable {G h : Heap} {L R : List Heap} {K : Value -> Heap -> Prop} {Kp : PK}
inductive Stp3 (s : Ru) : Ru -> Prop
 | none : Stp3 s s
 | edit (i : Nat) (o : Op) : i < 3 -> (s.mine i).length < 64 -> EdO (s.cl i).text.length o -> Stp3 s (s.edited i o)
 | up (i : Nat) (e : Ed) (hd : Hd) : i < 3 -> s.has i < (s.mine i).length -> UpOk s i e hd -> Stp3 s (s.upped i e hd)
 | down (i : Nat) (o : Op) : i < 3 -> s.down i < s.bk.done.length -> DownOk s i o -> Stp3 s (s.downed i o)
 | boot : s.boots < 100 -> Stp3 s s.booted
 | sync : Stp3 s { s with syn := (frames (s.its.map It.bytes)).length }
theorem runPlay {p : Option Addr} {s : Ru} {c : Heap} {k1 k2 k3 k4 : Int} (hT : Gt G) (hg : Gl G) (hw : Gw G) (hO : Own G h L) [t : Take L c R] (hq : RunP p s c) (hgood : Good s)
  (hK : ∀ h' c' s', Stp3 s s' -> RunP p s' c' -> Own G h' (c' :: R) -> K (.bool true) h') :
  CallF Tryz.prog G 31 #[.pointer p, .agg #[.int .i64 k1, .int .i64 k2, .int .i64 k3, .int .i64 k4]] K Kp h := by
 refine S31_ok ?_
 unfold S31
 refine newK.go hO ?_
 clear hO; intro r6 h hO
 refine LdI.g hO ?_
 refine lawRest (by omega) λ i hi => ⟨_, rfl, ?_⟩
 obtain ⟨i, rfl⟩ : ∃ j : Nat, i = (j : Int) := ⟨i.toNat, by omega⟩
 have hi3 : i < 3 := by omega
 refine LdI.g hO ?_
 have same : ∀ {h : Heap}, Own G h (single r6 (.cells #[.int .i64 k1, .int .i64 k2, .int .i64 k3, .int .i64 k4] 90 (0, 0)) :: L) -> K (.bool true) h := λ {h} hO => hK _ _ _ .none hq (hO.drop1.perm t.perm)
 have main : ∀ b, S31_k1 G K Kp r6 p i k1 b h := λ b => by
  unfold S31_k1
  refine If.mk (λ _ => ?_) (λ _ => ?_)
  ·(repeat (with_reducible first | refine NN.go ?_ | refine LdI.g hO ?_ | refine LdSl.g hO ?_ | refine LdP.g hO ?_ | refine LdM.g hO ?_ | refine LdB.g hO ?_ | refine cell_g hO ?_ | refine Rq.go (by omega) ?_ | refine Rng.go (by omega) ?_ | (refine st1.g hO ?_; clear hO; intro h hO; dsimp only [ad, List.set] at hO)))
   refine runEdit (L := single r6 (.cells #[.int .i64 k1, .int .i64 k2, .int .i64 k3, .int .i64 k4] 90 (0, 0)) :: L) hO hq hi3 (hgood.m64 i hi3) (hgood.can i hi3) (by have := hgood.tx i hi3; omega) (λ h hO => ⟨_, rfl, same hO⟩) λ h c' o h1 h2 hq hO => ⟨_, rfl, ?_⟩
   exact hK _ _ _ (.edit i o hi3 h1 h2) hq (by (refine hO.sp λ a => ?_; simp only [cnt_app, List.append_eq, cnt_cons, cnt_nil]; omega))
  refine If.mk (λ _ => ?_) (λ _ => ?_)
  ·refine runUp (L := single r6 (.cells #[.int .i64 k1, .int .i64 k2, .int .i64 k3, .int .i64 k4] 90 (0, 0)) :: L) hT hg hw hO hq hi3 (hgood.m64 i hi3) (hgood.up i hi3) (λ _ h hO => ⟨_, rfl, same hO⟩) λ h c' e hd h1 h2 hq hO => ⟨_, rfl, ?_⟩
   exact hK _ _ _ (.up i e hd hi3 h1 h2) hq (by (refine hO.sp λ a => ?_; simp only [cnt_app, List.append_eq, cnt_cons, cnt_nil]; omega))
  refine If.mk (λ _ => ?_) (λ _ => ?_)
  ·refine runDown (L := single r6 (.cells #[.int .i64 k1, .int .i64 k2, .int .i64 k3, .int .i64 k4] 90 (0, 0)) :: L) hT hg hw hO hq hi3 (hgood.down i hi3) (λ h hO => ⟨_, rfl, same hO⟩) λ h c' o h1 h2 hq hO => ⟨_, rfl, ?_⟩
   exact hK _ _ _ (.down i o hi3 h1 h2) hq (by (refine hO.sp λ a => ?_; simp only [cnt_app, List.append_eq, cnt_cons, cnt_nil]; omega))
  obtain ⟨d, b, r, C, M, dc, dn, en, rv, hs, dcs, cc, cm, cb, c1, c2, c3, c4, hp, hcl, hb, hm, hd1, hd2, hdn, hen, hrv, hj⟩ := id hq
  subst hp
  have hO0 := hO
  refine If.mk (λ _ => ?_) (λ _ => ?_)
  ·replace hO := hO.drop1
   (have hO := (hO.perm t.perm).openJ hj; simp only [List.cons_append, List.nil_append] at hO)
   refine NN.go ?_
   refine LdI.g hO ?_
   refine If.dec (λ _ => same hO0) (λ e => ?_)
   have hbo : s.boots < 100 := by omega
   have ok := hgood.boot hbo
   refine NN.go ?_
   refine LdI.g hO ?_
   refine Rng.go (by omega) ?_
   refine NN.go ?_
   refine st1.go hO (show _ = some (ruB C d b M (λ i => s.has i) (λ i => s.down i) dc dn en rv ((s.boots + 1 : Nat) : Int)) by with_unfolding_all rfl) ?_
   clear hO; intro h hO
   refine NN.go ?_
   refine LdP.g hO ?_
   refine bookBoot hg hw hO hb ok.ep (by have := ok.el; omega) ok.fr λ h cb' hb' hO => ⟨_, _, rfl, ?_⟩
   have hO2 : Own G h ((single r (ruB C d b M (λ i => s.has i) (λ i => s.down i) dc dn en rv ((s.boots + 1 : Nat) : Int)) :: cb' :: cc 0 :: cc 1 :: cc 2 :: cm 0 :: cm 1 :: cm 2 :: c1 :: c2 :: c3 :: c4 :: dcs) ++ R) := by
    refine hO.sp λ a => ?_; simp only [ruB, cnt_app, List.append_eq, cnt_cons, cnt_nil, List.cons_append, Int.natCast_add, Int.natCast_one]; omega
   obtain ⟨cj, hj, hO⟩ := Own.closeE hO2
   have e1 : (endsI s.its).length = s.its.length + 1 := by simp [endsI]
   have e2 : (revsI s.its).length = s.its.length + 1 := by simp [revsI]
   have hil := ok.il
   have hdl := ok.dl
   have hq2 : RunQ (some ⟨r, 0, none⟩) s.booted (endsI s.its) (revsI s.its) (docsOf s.bk.done) s.bk.done cj := by
    refine ⟨d, b, r, C, M, dc, dn, en, rv, hs, dcs, cc, cm, cb', c1, c2, c3, c4, rfl, hcl, ?_, hm, hd1, hd2, hdn, hen, hrv, hj⟩
    have := hb'
    simp only [Ru.booted, List.map_append, List.map_cons, List.map_nil, It.bytes]
    exact this
   refine runGrown hO hq2 (by omega) (by omega) (by omega) λ h c' hq' hO => ⟨rfl, ?_⟩
   refine lawNum ⟨_, rfl, ?_⟩
   refine hK _ _ _ (.boot hbo) ?_ hO
   show RunQ _ s.booted (endsI (s.its ++ [.boot (s.bk.epoch + 1)])) (revsI (s.its ++ [.boot (s.bk.epoch + 1)])) (docsOf s.bk.done) s.bk.done c'
   rw [endsI_snoc, revsI_snoc, List.countP_append, ok.cn]
   exact hq'
  refine If.mk (λ _ => ?_) (λ _ => ?_)
  ·replace hO := hO.drop1
   (have hO := (hO.perm t.perm).openJ hj; simp only [List.cons_append, List.nil_append] at hO)
   have ok := hgood.sync
   refine NN.go ?_
   refine LdP.g hO ?_
   refine bookSync hO hb (by rw [List.length_map]; have := ok.pl; omega) (by have := ok.fr; omega) ok.sn (by rw [List.length_map]; exact ok.el) ok.ev λ h cb' m hb' hO => ⟨_, rfl, ?_⟩
   unfold S31_k2
   have hO2 : Own G h ((single r (ruB C d b M (λ i => s.has i) (λ i => s.down i) dc dn en rv s.boots) :: cb' :: cc 0 :: cc 1 :: cc 2 :: cm 0 :: cm 1 :: cm 2 :: c1 :: c2 :: c3 :: c4 :: dcs) ++ R) := by
    refine hO.sp λ a => ?_; simp only [cnt_app, List.append_eq, cnt_cons, cnt_nil, List.cons_append]; omega
   obtain ⟨cj, hj, hO⟩ := Own.closeE hO2
   exact hK _ _ _ .sync ⟨d, b, r, C, M, dc, dn, en, rv, hs, dcs, cc, cm, cb', c1, c2, c3, c4, rfl, hcl, hb', hm, hd1, hd2, hdn, hen, hrv, hj⟩ hO
  ·unfold S31_k2
   exact same hO0
 exact If.mk (λ _ => main _) (λ _ => main _)
end Go.Sl
set_option maxRecDepth 100000
namespace Go.Sl
open Go Go.Proofs
variable {G h : Heap} {L R : List Heap} {K : Value -> Heap -> Prop} {Kp : PK}
def ru00 : Ru := ⟨λ i => cl0 (i + 1), bk0, [], 0, λ _ => [], λ _ => 0, λ _ => 0, 0⟩
def ru0 : Ru := { ru00.booted with boots := 0 }
theorem lawBegun (hT : Gt G) (hg : Gl G) (hw : Gw G) (hO : Own G h L)
  (hK : ∀ h' p c', RunP p ru0 c' -> Own G h' (c' :: L) -> K (.tuple #[.pointer p, .bool true]) h') :
  CallF Tryz.prog G 30 #[] K Kp h := by
 refine S30_ok ?_
 unfold S30
 refine newK.go hO ?_
 clear hO; intro r1 h hO
 refine newK.go hO ?_
 clear hO; intro r2 h hO
 refine LoopS.go (λ vs h' => ∃ (n : Nat) (C : Nat -> Option Addr) (cc : Nat -> Heap), n <= 3 /\ vs = [.int .i64 n] /\ (∀ i, i < n -> ClientP (C i) (cl0 (i + 1)) (cc i)) /\ (∀ i, n <= i -> cc i = emp) /\
  Own G h' (single r2 (ruB C none none (λ _ => (none, 0, 0)) (λ _ => 0) (λ _ => 0) (some ⟨r1, 0, none⟩, 1, 1) (none, 0, 0) (none, 0, 0) (none, 0, 0) 0) :: single r1 (blk eDc (0, 0) [(none, 0, 0)]) :: cc 0 :: cc 1 :: cc 2 :: L)) (λ vs _ => match vs with | [.int _ n] => (3 - n).toNat | _ => 0)
  ⟨0, λ _ => none, λ _ => emp, by omega, rfl, λ i hi => by omega, λ _ _ => rfl, (show Own G _ (single r2 (ruB (λ _ => none) none none (λ _ => (none, 0, 0)) (λ _ => 0) (λ _ => 0) (some ⟨r1, 0, none⟩, 1, 1) (none, 0, 0) (none, 0, 0) (none, 0, 0) 0) :: single r1 (blk eDc (0, 0) [(none, 0, 0)]) :: L) from hO).addEmp.addEmp.addEmp.perm (perm_cnt λ a => by simp only [cnt_cons]; omega)⟩ ?_
 clear hO
 rintro jv vs h ⟨n, C, cc, hn, rfl, hcl, hce, hO⟩
 unfold S30_l3
 refine ⟨_, rfl, If.dec (λ hlt => ?_) (λ hlt => ?_)⟩
 ·have hn3 : n < 3 := by omega
  refine Rng.go (by omega) ?_
  refine lawJoined hg hw hO (by omega) λ h p c hp hc hO => ⟨_, _, rfl, If.f rfl ?_⟩
  refine Rq.go (by omega) ?_
  rw [add_mk, Int.toNat_natCast]
  refine st1.go hO (ru_sC hn3 p) ?_
  clear hO; intro h hO
  refine Rng.go (by omega) ⟨⟨n + 1, upd C n p, upd cc n c, by omega, rfl, ?_, ?_, ?_⟩, by simp only; omega⟩
  ·intro i hi
   by_cases e : i = n
   ·subst e; rw [upd_self, upd_self]; exact hc
   ·rw [upd_ne e, upd_ne e]; exact hcl i (by omega)
  ·intro i hi
   rw [upd_ne (by omega)]; exact hce i (by omega)
  ·refine hO.sp λ a => ?_
   have e1 := oth_upd hn3 cc c a
   have e2 := oth_cnt hn3 cc a
   simp only [cnt_app, List.append_eq, cnt_cons, cnt_nil]; omega
 ·have hn3 : n = 3 := by omega
  subst hn3
  unfold S30_k1
  refine diskNew hO λ h d cd hd hO => ⟨_, rfl, ?_⟩
  have hdp : ∃ b, d = some ⟨b, 0, none⟩ := by obtain ⟨b, _, _, _, _, e, _⟩ := hd; exact ⟨b, e⟩
  refine st1.go hO (show _ = some (ruB C d none (λ _ => (none, 0, 0)) (λ _ => 0) (λ _ => 0) (some ⟨r1, 0, none⟩, 1, 1) (none, 0, 0) (none, 0, 0) (none, 0, 0) 0) by with_unfolding_all rfl) ?_
  clear hO; intro h hO
  refine LdP.g hO ?_
  refine If.f (by obtain ⟨b, rfl⟩ := hdp; rfl) ?_
  refine LdP.g hO ?_
  refine bookOpen (its := []) (tl := []) hT hg hw hO hd .nil (.inl rfl) (by show 0 <= _; omega) (by simp) λ h b v cb cf n' hn' hv hb hO => ?_
  obtain ⟨rfl, rfl⟩ := hv.nil
  obtain rfl := hn' rfl
  have hO := hO.drop2
  refine ⟨_, _, rfl, ?_⟩
  refine If.f (by obtain ⟨b, rfl⟩ := hb.ptr; rfl) (Rq.go (.inl rfl) ?_)
  unfold S30_k2
  refine If.f rfl ?_
  refine st1.go hO (show _ = some (ruB C d b (λ _ => (none, 0, 0)) (λ _ => 0) (λ _ => 0) (some ⟨r1, 0, none⟩, 1, 1) (none, 0, 0) (none, 0, 0) (none, 0, 0) 0) by with_unfolding_all rfl) ?_
  clear hO; intro h hO
  have hO2 : Own G h ((single r2 (ruB C d b (λ _ => (none, 0, 0)) (λ _ => 0) (λ _ => 0) (some ⟨r1, 0, none⟩, 1, 1) (none, 0, 0) (none, 0, 0) (none, 0, 0) 0) :: cb :: cc 0 :: cc 1 :: cc 2 :: emp :: emp :: emp :: single r1 (blk eDc (0, 0) [(none, 0, 0)]) :: emp :: emp :: emp :: [emp]) ++ L) := by
   refine (hO.addEmp.addEmp.addEmp.addEmp.addEmp.addEmp.addEmp).perm (perm_cnt λ a => ?_)
   simp only [cnt_app, List.append_eq, cnt_cons, cnt_nil, List.cons_append]; omega
  obtain ⟨cj, hj, hO⟩ := Own.closeE hO2
  clear hO2
  have hq : RunQX (some ⟨r2, 0, none⟩) d b ru00 [] [] (docsOf []) [] cj := by
   refine ⟨r2, C, λ _ => (none, 0, 0), (some ⟨r1, 0, none⟩, 1, 1), (none, 0, 0), (none, 0, 0), (none, 0, 0), [(none, 0, 0)], [emp], cc, λ _ => emp, cb, _, emp, emp, emp, rfl, hcl, hb, λ _ _ => .no, Sli.bk (e := eDc) (b := r1) (xs := [(none, 0, 0)]) [] (0, 0) (zok_0 _), ?_, .no, .no, .no, hj⟩
   refine ⟨rfl, rfl, λ i hd d pc e1 e2 e3 => ?_, λ i hd e1 => ?_⟩
   ·cases i with
    | zero => cases e1; cases e2; cases e3; exact λ _ _ => Rdl.nil _ _
    | succ i => cases e1
   ·cases i with
    | zero => cases e1; exact ⟨Nat.le_refl _, λ a ha => by cases ha⟩
    | succ i => cases e1
  refine runGrownX hO hq (by simp) (by simp) (by simp) λ h c hq hO => ⟨rfl, ?_⟩
  clear hj hb hd hcl hce
  obtain ⟨r, C, M, dc, dn, en, rv, hs, dcs, cc, cm, cb, c1, c2, c3, c4, hp, hcl, hb, hm, hd1, hd2, hdn, hen, hrv, hj⟩ := hq
  cases hp
  replace hO := hO.openJ hj
  simp only [List.cons_append] at hO
  refine bookBoot hg hw hO hb (by decide) (by decide) (by show 0 <= _; omega) λ h cb' hb' hO => ⟨_, _, rfl, ?_⟩
  have hO2 : Own G h ((single r2 (ruB C d b M (λ i => ((ru0.has i : Nat) : Int)) (λ i => ((ru0.down i : Nat) : Int)) dc dn en rv ((ru0.boots : Nat) : Int)) :: cb' :: cc 0 :: cc 1 :: cc 2 :: cm 0 :: cm 1 :: cm 2 :: c1 :: c2 :: c3 :: c4 :: dcs) ++ L) := by
   refine hO.sp λ a => ?_; simp only [ru0, ru00, Ru.booted, cnt_app, List.append_eq, cnt_cons, cnt_nil, List.cons_append]; omega
  obtain ⟨cj, hj, hO⟩ := Own.closeE hO2
  clear hO2
  have hq2 : RunQX (some ⟨r2, 0, none⟩) d b ru0 (endsI []) (revsI []) (docsOf []) [] cj := ⟨r2, C, M, dc, dn, en, rv, hs, dcs, cc, cm, cb', c1, c2, c3, c4, rfl, hcl, hb', hm, hd1, hd2, hdn, hen, hrv, hj⟩
  refine runGrownX hO hq2 (by decide) (by decide) (by decide) λ h c hq hO => ⟨rfl, ?_⟩
  refine lawNum ⟨_, rfl, If.t rfl ?_⟩
  have fin : RunP (some ⟨r2, 0, none⟩) ru0 c := ⟨d, b, by
   show RunQX _ d b ru0 (endsI ([] ++ [.boot (bk0.epoch + 1)])) (revsI ([] ++ [.boot (bk0.epoch + 1)])) (docsOf []) [] c
   rw [endsI_snoc, revsI_snoc]
   exact hq⟩
  clear hj hb hcl hd1 hd2 hdn hen hrv hq2 hb' hm
  obtain ⟨r, C, M, dc, dn, en, rv, hs, dcs, cc, cm, cb, c1, c2, c3, c4, hp, hcl, hb, hm, hd1, hd2, hdn, hen, hrv, hj⟩ := hq
  cases hp
  have hO0 := hO
  replace hO := hO.openJ hj
  simp only [List.cons_append] at hO
  refine LdP.g hO ?_
  refine bookSize hO hb ⟨_, rfl, ?_⟩
  unfold S30_k3
  have := frames_ge (pls := ru0.its.map It.bytes)
  rw [decide_eq_true (by rw [List.length_map, show ru0.its.length = 1 from rfl] at this; omega)]
  exact hK _ _ _ fin hO0
end Go.Sl
set_option maxRecDepth 100000
namespace Go.Sl
open Go Go.Proofs
variable {G h : Heap} {L R : List Heap} {K : Value -> Heap -> Prop} {Kp : PK}
structure Invs (I : Ru -> Prop) : Prop where
 z : I ru0
 st : ∀ s s', I s -> Stp3 s s' -> I s'
 gd : ∀ s, I s -> Good s
 run : ∀ s, I s -> Runs bk0 s.its s.bk
 il : ∀ s, I s -> s.its.length <= 4000
 fr : ∀ s, I s -> (frames (s.its.map It.bytes)).length <= 200000
 de : ∀ s, I s -> s.bk.done.length = s.bk.edits.length
 ed : ∀ s, I s -> s.bk.edits.length <= 4000
 fit : ∀ s, I s -> Fit s.bk.done
abbrev Pl4 := Int × Int × Int × Int
def ePl : En Pl4 := ⟨90, 4, λ x => [.int .i64 x.1, .int .i64 x.2.1, .int .i64 x.2.2.1, .int .i64 x.2.2.2], (0, 0, 0, 0)⟩
theorem ePl_ok : ePl.Ok := ⟨λ _ => rfl, by decide, λ x v hv => by simp [ePl] at hv; rcases hv with rfl | rfl | rfl | rfl <;> rfl⟩
theorem lawRan {pa : Option Addr} {l c : Nat} {xs : List Pl4} {I : Ru -> Prop} (hI : Invs I) (hT : Gt G) (hg : Gl G) (hw : Gw G) (hO : Own G h L) (hr : RdA G ePl pa l xs) (hsm : l <= 9223372036854775807)
  (hK : ∀ h' p p2 s c1 c2, I s -> RunP p s c1 -> (∃ b, p2 = some ⟨b, 0, none⟩) -> PastP p2 s.bk (psOf s.bk.done) c2 -> Own G h' (c2 :: c1 :: L) -> K (.tuple #[.pointer p, .pointer p2, .bool true]) h') :
  CallF Tryz.prog G 10 #[.slice pa l c] K Kp h := by
 refine S10_ok ?_
 unfold S10
 refine lawBegun hT hg hw hO λ h p c1 hq hO => ⟨_, _, rfl, If.f rfl ?_⟩
 refine LoopS.go (λ vs h' => ∃ (n : Nat) (s : Ru) (c1 : Heap), n <= l /\ vs = [.int .i64 n] /\ I s /\ RunP p s c1 /\ Own G h' (c1 :: L)) (λ vs _ => match vs with | [.int _ n] => (l - n).toNat | _ => 0) ⟨0, ru0, c1, by omega, rfl, hI.z, hq, hO⟩ ?_
 clear hO hq c1
 rintro jv vs h ⟨n, s, c1, hn, rfl, hs, hq, hO⟩
 unfold S10_l5
 refine ⟨_, rfl, If.dec (λ hlt => ?_) (λ hlt => ?_)⟩
 ·refine Rq.go ⟨by omega, hlt⟩ ?_
  obtain ⟨x, hx, hn'⟩ := (hr _ _ hO).at ePl_ok (i := (n : Int)) (by omega) hlt
  refine hn' _ λ a _ hc => ?_
  refine LdI.i (hc 0 _ rfl) (LdI.i (hc 1 _ rfl) (LdI.i (hc 2 _ rfl) (LdI.i (hc 3 _ rfl) ?_)))
  refine runPlay hT hg hw hO hq (hI.gd s hs) λ h c2 s2 h1 hq hO => ⟨_, rfl, If.f rfl (Rng.go (by omega) ⟨⟨n + 1, s2, c2, by omega, rfl, hI.st _ _ hs h1, hq, hO⟩, by simp only; omega⟩)⟩
 ·unfold S10_k1
  refine LoopS.go (λ vs h' => ∃ (n : Nat) (s : Ru) (c1 : Heap), n <= 3 /\ vs = [.int .i64 n] /\ I s /\ RunP p s c1 /\ Own G h' (c1 :: L)) (λ vs _ => match vs with | [.int _ n] => (3 - n).toNat | _ => 0) ⟨0, s, c1, by omega, rfl, hs, hq, hO⟩ ?_
  clear hO hq hs hlt c1 s hn n
  rintro jv vs h ⟨n, s, c1, hn, rfl, hs, hq, hO⟩
  unfold S10_l10
  obtain ⟨r, rfl⟩ : ∃ r, p = some ⟨r, 0, none⟩ := by obtain ⟨_, _, r, _, _, _, _, _, _, _, _, _, _, _, _, _, _, _, e, _⟩ := hq; exact ⟨r, e⟩
  refine ⟨_, rfl, If.dec (λ hlt => ?_) (λ hlt => ?_)⟩
  ·have hn3 : n < 3 := by omega
   refine LoopS.go (λ vs h' => ∃ (s : Ru) (c1 : Heap), vs = [] /\ I s /\ RunP (some ⟨r, 0, none⟩) s c1 /\ Own G h' (c1 :: L)) (λ vs h => match hcell (rd G h) ⟨r, 0 + 8 + n * 1, none⟩ with | some (.int _ m) => (64 - m).toNat | _ => 0) ⟨s, c1, rfl, hs, hq, hO⟩ ?_
   clear hO hq hs c1 s
   rintro jv vs h ⟨s, c1, rfl, hs, hq, hO⟩
   have cell : ∀ {h : Heap} {s : Ru} {c1 : Heap}, RunP (some ⟨r, 0, none⟩) s c1 -> Own G h (c1 :: L) -> hcell (rd G h) ⟨r, 0 + 8 + n * 1, none⟩ = some (.int .i64 (s.has n)) := λ {h s c1} hq hO => by
    obtain ⟨d, b, r', C, M, dc, dn, en, rv, hs, dcs, cc, cm, cb, c1, c2, c3, c4, hp, hcl, hb, hm, hd1, hd2, hdn, hen, hrv, hj⟩ := hq
    cases hp
    replace hO := hO.openJ hj
    simp only [List.cons_append] at hO
    exact hcell_own hO inferInstance (ru_H hn3)
   have e0 := cell hq hO
   rw [e0]
   unfold S10_l12
   have hg2 := hI.gd s hs
   obtain ⟨d, b, r', C, M, dc, dn, en, rv, hs', dcs, cc, cm, cb, c1', c2, c3, c4, hp, hcl, hb, hm, hd1, hd2, hdn, hen, hrv, hj⟩ := id hq
   cases hp
   have hO0 := hO
   replace hO := hO.openJ hj
   simp only [List.cons_append] at hO
   refine ⟨rfl, NN.go (Rq.go (by omega) ?_)⟩
   rw [add_mk, Int.toNat_natCast]
   refine LdI.go hO (ru_H hn3) ?_
   refine NN.go (Rq.go (by omega) ?_)
   rw [add_mk]
   refine LdSl.go hO (ru_M hn3) ?_
   have hml := (hm n hn3).len
   refine If.dec (λ hlt => ?_) (λ hlt => ?_)
   ·have hlt2 : s.has n < (s.mine n).length := by omega
    refine runUp hT hg hw hO0 hq hn3 (hg2.m64 n hn3) (hg2.up n hn3) (λ e => absurd hlt2 e) λ h c2 e hd h1 h2 hq hO => ⟨_, rfl, If.f rfl ?_⟩
    have e1 := cell hq hO
    refine ⟨⟨_, c2, rfl, hI.st _ _ hs (.up n e hd hn3 h1 h2), hq, hO⟩, ?_⟩
    rw [e1]
    have hm := hg2.m64 n hn3
    have : (s.upped n e hd).has n = s.has n + 1 := upd_self _ _ _
    rw [this]
    simp only; omega
   ·unfold S10_k2
    exact Rng.go (by omega) ⟨⟨n + 1, s, c1, by omega, rfl, hs, hq, hO0⟩, by simp only; omega⟩
  ·unfold S10_k3
   obtain ⟨d, b, r', C, M, dc, dn, en, rv, hs', dcs, cc, cm, cb, c1', c2, c3, c4, hp, hcl, hb, hm, hd1, hd2, hdn, hen, hrv, hj⟩ := id hq
   cases hp
   have hO0 := hO
   replace hO := hO.openJ hj
   simp only [List.cons_append] at hO
   refine NN.go ?_
   refine LdP.g hO ?_
   have hfr := hI.fr s hs
   refine bookBytes hO hb (by omega) λ h b2 pc hsl hO => ⟨_, _, _, rfl, ?_⟩
   have hO2 := Own.closeWith (R := pc :: L) hj (hO.sp λ a => by simp only [cnt_app, List.append_eq, cnt_cons, cnt_nil, List.cons_append]; omega)
   clear hO
   refine revOpen (tl := []) hT hg hw hO2 (by rw [List.append_nil]; exact hsl.rdl (by simp)) (hI.run s hs) (.inl rfl) (by simp only [List.length_nil]; omega) (by have := hI.il s hs; omega) (hI.de s hs) (hI.ed s hs) (hI.fit s hs) λ h p2 v c2 cf hp2 hv hpq hO => ?_
   obtain ⟨rfl, rfl⟩ := hv.nil
   have hO := hO.drop2
   refine ⟨_, _, rfl, ?_⟩
   obtain ⟨b3, rfl⟩ := hp2
   refine If.t rfl (Rq.go (.inl rfl) ?_)
   unfold S10_k4
   exact hK _ _ _ s _ _ hs hq ⟨_, rfl⟩ hpq (by (refine hO.sp λ a => ?_; simp only [cnt_app, List.append_eq, cnt_cons, cnt_nil]; omega))
end Go.Sl
set_option maxRecDepth 100000
namespace Go.Sl
open Go Go.Proofs
variable {G h : Heap} {L R : List Heap} {K : Value -> Heap -> Prop} {Kp : PK}
theorem docsOf_get {ops : List Op} {k : Nat} (h : k <= ops.length) : (docsOf ops)[k]? = some (replayD (ops.take k)) := by
 unfold docsOf
 rw [List.getElem?_map, List.getElem?_range (by omega)]
 rfl
theorem docsOf_len (ops : List Op) : (docsOf ops).length = ops.length + 1 := by simp [docsOf]
end Go.Sl
set_option maxRecDepth 100000
namespace Go.Sl
open Go Go.Proofs
variable {G h : Heap} {L R : List Heap} {K : Value -> Heap -> Prop} {Kp : PK}
theorem shiftO_who (a b : Op) (f : Bool) : (shiftO a b f).client = a.client /\ (shiftO a b f).seq = a.seq := by
 unfold shiftO
 cases (ruleF (rowI a.kind) (rowI b.kind) a.pos b.pos f).2 <;> exact ⟨rfl, rfl⟩
theorem pst_who1 (f : Bool) (l : List Op) : ∀ o, (pst o l f).1.client = o.client /\ (pst o l f).1.seq = o.seq := by
 induction l with
 | nil => intro o; exact ⟨rfl, rfl⟩
 | cons x l ih => intro o; simp only [pst]; rw [(ih _).1, (ih _).2]; exact shiftO_who _ _ _
theorem pst_who2 (f : Bool) (l : List Op) : ∀ o, (pst o l f).2.map (λ x => (x.client, x.seq)) = l.map (λ x => (x.client, x.seq)) := by
 induction l with
 | nil => intro o; rfl
 | cons x l ih => intro o; simp only [pst, List.map_cons, ih]; rw [(shiftO_who x o f).1, (shiftO_who x o f).2]
theorem applyD_len1 (d : List Elm) (o : Op) : (applyD d o).length <= d.length + 1 := applyD_len d o
theorem FitL.mem {l : List Op} : ∀ {d : List Elm}, FitL d l -> ∀ o ∈ l, FitP (d.length + l.length) o := by
 induction l with
 | nil => intro d _ o ho; cases ho
 | cons x l ih =>
  intro d h o ho
  rcases List.mem_cons.1 ho with rfl | ho
  ·exact h.1.mono (by simp)
  ·have := applyD_len1 d x
   exact (ih h.2 o ho).mono (by simp only [List.length_cons]; omega)
theorem sumG_le (l : List Op) : -(l.length : Int) <= sumG l /\ sumG l <= l.length := by
 induction l with
 | nil => simp [sumG]
 | cons x l ih =>
  have := gr_le x
  unfold sumG at ih ⊢
  simp only [List.foldr_cons, List.length_cons]; omega
theorem replayD_app (D : List Op) (l : List Op) : replayD (D ++ l) = applyL (replayD D) l := by unfold replayD applyL; rw [List.foldl_append]
theorem replayD_snoc (D : List Op) (d : Op) : replayD (D ++ [d]) = applyD (replayD D) d := by rw [replayD_app]; rfl
theorem replayD_le (D : List Op) : (replayD D).length <= D.length := by
 have := replayD_len D D.length
 rwa [List.take_length] at this
theorem FitL.at {l : List Op} : ∀ {d : List Elm}, FitL d l -> ∀ {k : Nat} {o : Op}, l[k]? = some o -> FitP (applyL d (l.take k)).length o := by
 induction l with
 | nil => intro d _ k o h; simp at h
 | cons x l ih =>
  intro d h k o ho
  cases k with
  | zero => simp only [List.getElem?_cons_zero, Option.some.injEq] at ho; subst ho; exact h.1
  | succ k => exact ih h.2 (by simpa using ho)
theorem FitL.fit {D : List Op} (h : FitL [] D) (hl : D.length <= 4000) : Fit D := λ k o ho => by
 have h1 := h.at ho
 have h2 := replayD_len D k
 have h3 := (List.getElem?_eq_some_iff.1 ho).1
 have e : replayD (D.take k) = applyL [] (D.take k) := rfl
 rw [<- e] at h1
 exact ⟨h1.fits (by omega), h1.ch⟩
def prs (q : List Mk) : List (Int × Op) := q.map λ m => (m.mark, m.op)
theorem prs_ops (q : List Mk) : (prs q).map (·.2) = q.map (·.op) := by simp [prs]
theorem prs_marks (q : List Mk) : (prs q).map (·.1) = q.map (·.mark) := by simp [prs]
theorem dropT_prs (t : Int) (q : List Mk) : dropT t (prs q) = prs (dropM t q) := by
 induction q with
 | nil => rfl
 | cons m q ih =>
  have e : prs (m :: q) = (m.mark, m.op) :: prs q := rfl
  unfold dropT dropM at *
  rw [e, List.dropWhile_cons, List.dropWhile_cons]
  by_cases h : m.mark <= t
  ·simp only [h, decide_true, if_true]; exact ih
  ·simp only [h, decide_false]; rfl
theorem zip_remk (q : List Mk) : ∀ l : List Op, (q.map (·.mark)).zip l = prs (remk q l) := by
 induction q with
 | nil => intro l; rfl
 | cons m q ih =>
  intro l
  cases l with
  | nil => rfl
  | cons o l =>
   have e1 : remk (m :: q) (o :: l) = ⟨m.mark, o⟩ :: remk q l := rfl
   have e2 : prs (⟨m.mark, o⟩ :: remk q l) = (m.mark, o) :: prs (remk q l) := rfl
   rw [List.map_cons, List.zip_cons_cons, e1, e2, ih]
theorem remk_ops {q : List Mk} : ∀ {l : List Op}, l.length = q.length -> (remk q l).map (·.op) = l := by
 induction q with
 | nil => intro l h; cases l with | nil => rfl | cons o l => simp at h
 | cons m q ih =>
  intro l h
  cases l with
  | nil => simp at h
  | cons o l =>
   have e1 : remk (m :: q) (o :: l) = ⟨m.mark, o⟩ :: remk q l := rfl
   rw [e1, List.map_cons, ih (by simpa using h)]
theorem remk_marks {q : List Mk} : ∀ {l : List Op}, l.length = q.length -> (remk q l).map (·.mark) = q.map (·.mark) := by
 induction q with
 | nil => intro l h; cases l with | nil => rfl | cons o l => simp at h
 | cons m q ih =>
  intro l h
  cases l with
  | nil => simp at h
  | cons o l =>
   have e1 : remk (m :: q) (o :: l) = ⟨m.mark, o⟩ :: remk q l := rfl
   rw [e1, List.map_cons, List.map_cons, ih (by simpa using h)]
theorem sstep_prs (hd : Hd) (e : Ed) : sstep (prs hd.q) e = ((hd.step e).1, prs (hd.taken e).q) := by
 unfold sstep Hd.taken Hd.step
 rw [dropT_prs, prs_ops, prs_marks, past_pst]
 simp only
 rw [zip_remk]
theorem step_len (hd : Hd) (e : Ed) : (hd.step e).2.length = (dropM e.tag hd.q).length := by
 unfold Hd.step; rw [past_pst, pst_len, List.length_map]
theorem taken_ops (hd : Hd) (e : Ed) : (hd.taken e).q.map (·.op) = (hd.step e).2 := remk_ops (step_len hd e)
theorem taken_marks (hd : Hd) (e : Ed) : (hd.taken e).q.map (·.mark) = (dropM e.tag hd.q).map (·.mark) := remk_marks (step_len hd e)
theorem dropT_succ {k : Int} {q : List (Int × Op)} : dropT (k + 1) (dropT k q) = dropT (k + 1) q := by
 unfold dropT
 induction q with
 | nil => rfl
 | cons x q ih =>
  rw [List.dropWhile_cons (xs := q) (p := λ m : Int × Op => decide (m.1 <= k))]
  by_cases h : x.1 <= k
  ·rw [if_pos (by simpa using h), ih, List.dropWhile_cons, if_pos (by simp; omega)]
  ·rw [if_neg (by simpa using h)]
theorem ckN_eq {tag : Int} {q : List Mk} (h : q.Pairwise λ a b => a.mark < b.mark) : ∀ l : Int, ckN l tag q = l - sumG ((dropM tag q).map (·.op)) := by
 induction q with
 | nil => intro l; show l = l - 0; omega
 | cons m q ih =>
  intro l
  have hp := List.pairwise_cons.1 h
  have e1 : ∀ l, ckN l tag (m :: q) = ckN (if m.mark > tag then l - gr m.op else l) tag q := λ l => rfl
  rw [e1]
  unfold dropM
  rw [List.dropWhile_cons]
  by_cases hm : m.mark <= tag
  ·rw [if_neg (by omega), if_pos (by simpa using hm)]
   exact ih hp.2 l
  ·rw [if_pos (by omega), if_neg (by simpa using hm), ih hp.2]
   have e2 : dropM tag q = q := by
    cases q with
    | nil => rfl
    | cons y q =>
     unfold dropM
     have := hp.1 y (by simp)
     rw [List.dropWhile_cons, if_neg (by simp; omega)]
   rw [e2]
   show l - gr m.op - sumG (q.map (·.op)) = l - (gr m.op + sumG (q.map (·.op)))
   omega
theorem SSim.fitl {q : List (Int × Op)} {t s : Int} {Y : List Elm} {es : List Ed} {ds : List Op} {qf : List (Int × Op)} {Yf : List Elm} (h : SSim q t s Y es ds qf Yf) : FitL Y ds /\ applyL Y ds = Yf := by
 induction h with
 | nil => exact ⟨trivial, rfl⟩
 | cons X h1 h2 h3 h4 h5 h6 _ ih => exact ⟨⟨h6 ▸ sstep_done h4 h5, ih.1⟩, ih.2⟩
def cntC (c : Int) (l : List Op) : Nat := l.countP λ o => decide (o.client = c)
theorem cntC_snoc (c : Int) (l : List Op) (o : Op) : cntC c (l ++ [o]) = cntC c l + if o.client = c then 1 else 0 := by
 unfold cntC
 rw [List.countP_append]
 by_cases h : o.client = c
 ·rw [if_pos h]; simp [h]
 ·rw [if_neg h]; simp [h]
theorem take_snoc {l : List Op} {k : Nat} {o : Op} (h : l[k]? = some o) : l.take (k + 1) = l.take k ++ [o] := by
 rw [List.take_add_one, h]; rfl
theorem frames_le {pls : List (List UInt8)} (h : ∀ pl ∈ pls, pl.length <= 64) : (frames pls).length <= 72 * pls.length := by
 induction pls with
 | nil => simp [frames]
 | cons x l ih =>
  have := ih λ pl hp => h pl (by simp [hp])
  have h2 := h x (by simp)
  rw [show x :: l = [x] ++ l from rfl, frames_app, frames_one, List.length_append, frame_len, List.length_append, List.length_singleton]
  omega
end Go.Sl
set_option maxRecDepth 100000
namespace Go.Sl
open Go Go.Proofs
variable {G h : Heap} {L R : List Heap} {K : Value -> Heap -> Prop} {Kp : PK}
structure HI (N : Nat) (Y : List Elm) (h : Hd) : Prop where
 ql : h.q.length <= N
 la : h.last <= N
 mks : ∀ m ∈ h.q, m.mark <= N
 pw : h.q.Pairwise λ a b => a.mark < b.mark
 fit : ∃ Z, FitL Z (h.q.map (·.op)) /\ applyL Z (h.q.map (·.op)) = Y
theorem HI.push {N : Nat} {Y : List Elm} {h : Hd} (hh : HI N Y h) {d : Op} (hd : FitP Y.length d) : HI (N + 1) (applyD Y d) (keepH ((N + 1 : Nat) : Int) d h) := by
 obtain ⟨h1, h2, h3, h4, Z, h5, h6⟩ := hh
 refine ⟨by simp [keepH]; omega, by simp [keepH], λ m hm => ?_, ?_, Z, ?_, ?_⟩
 ·rcases List.mem_append.1 hm with hm | hm
  ·have := h3 m hm; omega
  ·rw [List.mem_singleton.1 hm]; exact Int.le_refl _
 ·refine List.pairwise_append.2 ⟨h4, List.pairwise_singleton _ _, λ a ha b hb => ?_⟩
  rw [List.mem_singleton.1 hb]
  have := h3 a ha
  simp only; omega
 ·simp only [keepH, List.map_append, List.map_cons, List.map_nil]
  exact FitL_app.2 ⟨h5, by rw [h6]; exact ⟨hd, trivial⟩⟩
 ·simp only [keepH, List.map_append, List.map_cons, List.map_nil]
  rw [applyL_app, h6]; rfl
theorem HI.taken {N : Nat} {Y X : List Elm} {h : Hd} {e : Ed} (hh : HI N Y h) (h4 : FitP X.length e.op) (h5 : FitL X ((dropM e.tag h.q).map (·.op))) (h6 : applyL X ((dropM e.tag h.q).map (·.op)) = Y) : HI (N + 1) (applyD Y (h.step e).1) (h.taken e) := by
 obtain ⟨g1, g2, g3, g4, -⟩ := hh
 have hl : (h.taken e).q.length = (dropM e.tag h.q).length := by
  have := congrArg List.length (taken_marks h e)
  simpa using this
 have hl2 := dropM_len e.tag h.q
 have hsub : (dropM e.tag h.q).Sublist h.q := by unfold dropM; exact List.dropWhile_sublist _
 have hmk := taken_marks h e
 have hop := taken_ops h e
 have hpast := past_ok (f := true) h4 h5
 refine ⟨by omega, ?_, λ m hm => ?_, ?_, applyD X e.op, ?_, ?_⟩
 ·show h.last <= _; omega
 ·have : m.mark ∈ (h.taken e).q.map (·.mark) := List.mem_map_of_mem hm
  rw [hmk] at this
  obtain ⟨m2, hm2, e2⟩ := List.mem_map.1 this
  have := g3 m2 (hsub.subset hm2)
  omega
 ·have : ((h.taken e).q.map (·.mark)).Pairwise (· < ·) := by
   rw [hmk]; exact List.pairwise_map.2 (g4.sublist hsub)
  exact List.pairwise_map.1 this
 ·rw [hop]; unfold Hd.step; rw [past_pst]; exact hpast.2.1
 ·rw [hop]; unfold Hd.step; rw [past_pst, hpast.2.2, h6]
structure BI (s : Ru) : Prop where
 nn : s.bk.done.length = s.has 0 + s.has 1 + s.has 2
 de : s.bk.edits.length = s.bk.done.length
 fitl : FitL [] s.bk.done
 len : s.bk.length = (replayD s.bk.done).length
 bo : s.boots <= 100
 ep : s.bk.epoch = s.boots + 1
 il : s.its.length = s.boots + 1 + s.bk.done.length
 el : s.bk.edited.length = s.its.length
 ev : ∀ v ∈ s.bk.edited, 0 <= v /\ v <= s.bk.done.length
 cn : s.its.countP isEdit = s.bk.done.length
 run : Runs bk0 s.its s.bk
 syn : s.syn <= (frames (s.its.map It.bytes)).length
 hl : s.bk.hands.length = 65
 hi : ∀ (j : Nat) (h : Hd), s.bk.hands[j]? = some h -> HI s.bk.done.length (replayD s.bk.done) h
 rv : ∀ i : Nat, i < 3 -> ∀ q : Int, s.has i < q -> s.bk.revs ((i : Int) + 1, q) = none
 sq : ∀ (k : Nat) (o : Op), s.bk.done[k]? = some o -> o.seq = cntC o.client (s.bk.done.take k) + 1
 cl : ∀ o ∈ s.bk.done, 1 <= o.client /\ o.client <= 3
 hc : ∀ i : Nat, i < 3 -> cntC ((i : Int) + 1) s.bk.done = s.has i
structure CI (s : Ru) (i : Nat) : Prop where
 id : (s.cl i).id = i + 1
 ep : (s.cl i).epoch = 1
 md : (s.cl i).made = (s.mine i).length
 hv : (s.cl i).have_ = s.down i
 cu : (s.cl i).cum = s.down i
 ba : (s.cl i).base = 0
 he : (s.cl i).held = none
 m64 : (s.mine i).length <= 64
 hm : s.has i <= (s.mine i).length
 dn : s.down i <= s.bk.done.length
 fl : (s.cl i).flast = (s.mine i).length
 le : (s.cl i).left.length = (s.mine i).length
 pe : (s.cl i).pend.length = (s.cl i).forms.length
 fo : (s.cl i).forms.length <= (s.mine i).length
 tx : (s.cl i).text.length <= s.down i + (s.mine i).length
 mi : ∀ (j : Nat) (e : Ed), (s.mine i)[j]? = some e -> e.op.client = i + 1 /\ e.op.seq = j + 1 /\ 0 <= e.tag /\ e.tag <= s.down i
 fm : ∀ (j : Nat) (f : Mk), (s.cl i).forms[j]? = some f -> f.op.client = i + 1 /\ f.op.seq = f.mark /\ f.mark = (s.mine i).length - (s.cl i).forms.length + j + 1
 ft : FitL (replayD (s.bk.done.take (s.down i))) ((s.cl i).forms.map (·.op)) /\ applyL (replayD (s.bk.done.take (s.down i))) ((s.cl i).forms.map (·.op)) = (s.cl i).text
 la : (s.cl i).last.length = 65 /\ ∀ c : Nat, 1 <= c -> c <= 3 -> c ≠ i + 1 -> (s.cl i).last[c]? = some (cntC c (s.bk.done.take (s.down i)) : Int)
 hd : ∃ hd ds qf Tf outs, s.bk.hands[i + 1]? = some hd /\ hd.seq = s.has i /\ hd.tag <= s.down i /\
  SSim (prs hd.q) hd.tag hd.seq (replayD s.bk.done) ((s.mine i).drop (s.has i)) ds qf Tf /\
  CSim (i + 1) (s.down i) ((s.cl i).forms.map (·.op)) (s.cl i).text (s.bk.done.drop (s.down i)) ds Tf outs /\ outs = dropT (s.down i) qf
structure RInv (s : Ru) : Prop where
 b : BI s
 c : ∀ i, i < 3 -> CI s i
theorem RInv.small {s : Ru} (h : RInv s) : s.bk.done.length <= 192 /\ s.its.length <= 293 /\ (frames (s.its.map It.bytes)).length <= 30000 := by
 have h1 := (h.c 0 (by omega)).hm
 have h2 := (h.c 1 (by omega)).hm
 have h3 := (h.c 2 (by omega)).hm
 have g1 := (h.c 0 (by omega)).m64
 have g2 := (h.c 1 (by omega)).m64
 have g3 := (h.c 2 (by omega)).m64
 have nn := h.b.nn
 have il := h.b.il
 have bo := h.b.bo
 have hn : s.bk.done.length <= 192 := by omega
 refine ⟨hn, by omega, ?_⟩
 have := frames_le (pls := s.its.map It.bytes) λ pl hp => by
  obtain ⟨it, h1, rfl⟩ := List.mem_map.1 hp
  exact (h.b.run.lens it h1).2
 rw [List.length_map] at this
 omega
theorem inv0 : RInv ru0 := by
 have hr : Runs bk0 ru0.its ru0.bk := .boot (by decide) (by decide) .nil
 refine ⟨⟨rfl, rfl, trivial, rfl, by decide, by decide, rfl, rfl, ?_, by decide, hr, Nat.zero_le _, by rfl, ?_, λ _ _ _ _ => rfl, ?_, ?_, λ _ _ => rfl⟩, λ i hi => ⟨rfl, rfl, rfl, rfl, rfl, rfl, rfl, Nat.zero_le _, Nat.zero_le _, Nat.zero_le _, rfl, rfl, rfl, Nat.le_refl _, Nat.zero_le _, ?_, ?_, ⟨trivial, rfl⟩, ⟨by rfl, ?_⟩, ?_⟩⟩
 ·intro v hv
  have : v = 0 := by
   have hv : v ∈ [((0 : Nat) : Int)] := hv
   simpa using hv
  subst this
  exact ⟨by omega, by omega⟩
 ·intro j h hj
  have hj : (List.replicate 65 (⟨0, 0, [], 0⟩ : Hd))[j]? = some h := hj
  rw [List.getElem?_replicate] at hj
  split at hj
  ·cases hj
   exact ⟨by simp, by simp, by simp, by simp, [], trivial, rfl⟩
  ·cases hj
 ·intro k o ho
  have ho : ([] : List Op)[k]? = some o := ho
  simp at ho
 ·intro o ho
  cases ho
 ·intro j e he
  have he : ([] : List Ed)[j]? = some e := he
  simp at he
 ·intro j e he
  have he : ([] : List Mk)[j]? = some e := he
  simp at he
 ·intro c h1 h2 h3
  show (List.replicate 65 (0 : Int))[c]? = some 0
  rw [List.getElem?_replicate, if_pos (by omega)]
 ·refine ⟨⟨0, 0, [], 0⟩, [], [], [], [], ?_, rfl, Int.le_refl _, .nil, .nil, rfl⟩
  show (List.replicate 65 (⟨0, 0, [], 0⟩ : Hd))[i + 1]? = _
  rw [List.getElem?_replicate, if_pos (by omega)]
end Go.Sl
set_option maxRecDepth 100000
namespace Go.Sl
open Go Go.Proofs
variable {G h : Heap} {L R : List Heap} {K : Value -> Heap -> Prop} {Kp : PK}
theorem RInv.sync {s : Ru} (h : RInv s) : RInv { s with syn := (frames (s.its.map It.bytes)).length } :=
 ⟨{ h.b with syn := Nat.le_refl _ }, λ i hi => { h.c i hi with }⟩
theorem RInv.boot {s : Ru} (h : RInv s) (hb : s.boots < 100) : RInv s.booted := by
 have hs := h.small
 have b := h.b
 have el := b.el
 have il := b.il
 have ep := b.ep
 refine ⟨⟨b.nn, b.de, b.fitl, b.len, ?_, ?_, ?_, ?_, ?_, ?_, ?_, ?_, b.hl, b.hi, b.rv, b.sq, b.cl, b.hc⟩, λ i hi => { h.c i hi with }⟩
 ·show s.boots + 1 <= 100; omega
 ·show s.bk.epoch + 1 = ((s.boots + 1 : Nat) : Int) + 1; omega
 ·show (s.its ++ [_]).length = s.boots + 1 + 1 + s.bk.done.length
  rw [List.length_append, List.length_singleton]; omega
 ·show (s.bk.edited ++ [_]).length = (s.its ++ [_]).length
  rw [List.length_append, List.length_append, el]; rfl
 ·intro v hv
  rcases List.mem_append.1 hv with hv | hv
  ·exact b.ev v hv
  ·rw [List.mem_singleton.1 hv, b.de]
   show 0 <= _ /\ _ <= ((s.bk.done.length : Nat) : Int)
   omega
 ·show (s.its ++ [_]).countP isEdit = _
  rw [List.countP_append, b.cn]; rfl
 ·exact b.run.snoc (.boot (by omega) (by omega) .nil)
 ·show s.syn <= (frames ((s.its ++ [_]).map It.bytes)).length
  rw [List.map_append, frames_app, List.length_append]
  have := b.syn; omega
theorem edo_fit {n : Nat} {o : Op} {c q : Int} (h : EdO n o) (hc : 1 <= c /\ c <= 64) (hq : 1 <= q /\ q <= 64) : FitP n { o with client := c, seq := q } /\ o.kind ≠ 0 := by
 rcases h with ⟨pos, ch, rfl, h⟩ | ⟨pos, rfl, h⟩
 ·exact ⟨⟨.inr (.inl ⟨rfl, h.2.2.1, h.2.2.2, h.1, h.2.1⟩), hc, hq⟩, by show (1 : Int) ≠ 0; decide⟩
 ·exact ⟨⟨.inr (.inr ⟨rfl, rfl, h.1, h.2⟩), hc, hq⟩, by show (2 : Int) ≠ 0; decide⟩
theorem CI.off {s t : Ru} {i : Nat} (h : CI s i) (h1 : t.cl i = s.cl i) (h2 : t.mine i = s.mine i) (h3 : t.has = s.has) (h4 : t.down i = s.down i) (h5 : t.bk = s.bk) : CI t i := by
 obtain ⟨a1, a2, a3, a4, a5, a6, a7, a8, a9, b1, b2, b3, b4, b5, b6, b7, b8, b9, c1, c2⟩ := h
 rw [<- h1, <- h2, <- h3, <- h4, <- h5] at *
 exact ⟨a1, a2, a3, a4, a5, a6, a7, a8, a9, b1, b2, b3, b4, b5, b6, b7, b8, b9, c1, c2⟩
theorem RInv.edit {s : Ru} (h : RInv s) {i : Nat} {o : Op} (hi : i < 3) (hlt : (s.mine i).length < 64) (ho : EdO (s.cl i).text.length o) : RInv (s.edited i o) := by
 have b := h.b
 refine ⟨⟨b.nn, b.de, b.fitl, b.len, b.bo, b.ep, b.il, b.el, b.ev, b.cn, b.run, b.syn, b.hl, b.hi, b.rv, b.sq, b.cl, b.hc⟩, λ j hj => ?_⟩
 by_cases hji : j ≠ i
 ·exact (h.c j hj).off (upd_ne hji) (upd_ne hji) rfl rfl rfl
 rw [Decidable.not_not] at hji
 subst hji
 have c := h.c j hj
 have md := c.md
 have id := c.id
 have hv := c.hv
 have dn := c.dn
 have hm := c.hm
 have fo := c.fo
 have hfit : FitP (s.cl j).text.length { o with client := (s.cl j).id, seq := (s.cl j).made + 1 } := (edo_fit ho (by omega) (by omega)).1
 have hk := (edo_fit (c := 1) (q := 1) ho (by omega) (by omega)).2
 have e1 : (s.edited j o).cl j = (s.cl j).edited o := upd_self _ _ _
 have e2 : (s.edited j o).mine j = s.mine j ++ [s.edOf j o] := upd_self _ _ _
 have e3 : (s.edited j o).has = s.has := rfl
 have e4 : (s.edited j o).down = s.down := rfl
 have e5 : (s.edited j o).bk = s.bk := rfl
 have ef : (s.cl j).edited o = { s.cl j with made := (s.cl j).made + 1, text := applyD (s.cl j).text (s.edOf j o).op, pend := (s.cl j).pend ++ [s.edOf j o], forms := (s.cl j).forms ++ [⟨(s.cl j).made + 1, (s.edOf j o).op⟩], flast := (s.cl j).made + 1, left := (s.cl j).left ++ [s.edOf j o] } := rfl
 have hop : (s.edOf j o).op = { o with client := (s.cl j).id, seq := (s.cl j).made + 1 } := rfl
 have htag : (s.edOf j o).tag = s.down j := hv
 rw [<- hop] at hfit
 have hcl : (s.edOf j o).op.client = j + 1 := id
 have hsq : (s.edOf j o).op.seq = (s.mine j).length + 1 := by show (s.cl j).made + 1 = _; rw [md]
 have hkk : (s.edOf j o).op.kind ≠ 0 := hk
 generalize s.edOf j o = e at *
 have ml : (s.mine j ++ [e]).length = (s.mine j).length + 1 := by simp
 have fl : ((s.cl j).forms ++ [(⟨(s.cl j).made + 1, e.op⟩ : Mk)]).length = (s.cl j).forms.length + 1 := by simp
 have tl := applyD_len1 (s.cl j).text e.op
 have tx := c.tx
 refine ⟨?_, ?_, ?_, ?_, ?_, ?_, ?_, ?_, ?_, ?_, ?_, ?_, ?_, ?_, ?_, ?_, ?_, ?_, ?_, ?_⟩ <;> (try simp only [e1, e2, e3, e4, e5, ef, ml, fl])
 ·exact id
 ·exact c.ep
 ·omega
 ·exact hv
 ·exact c.cu
 ·exact c.ba
 ·exact c.he
 ·omega
 ·omega
 ·exact dn
 ·omega
 ·rw [List.length_append, c.le]; rfl
 ·rw [List.length_append, c.pe]; rfl
 ·omega
 ·omega
 ·intro k x hx
  rcases Nat.lt_or_ge k (s.mine j).length with hk | hk
  ·rw [List.getElem?_append_left hk] at hx; exact c.mi k x hx
  ·have := (List.getElem?_eq_some_iff.1 hx).1
   have hke : k = (s.mine j).length := by omega
   subst hke
   rw [List.getElem?_append_right (by omega)] at hx
   simp only [Nat.sub_self, List.getElem?_cons_zero, Option.some.injEq] at hx
   subst hx
   exact ⟨hcl, hsq, by omega, by omega⟩
 ·intro k x hx
  rcases Nat.lt_or_ge k (s.cl j).forms.length with hk | hk
  ·rw [List.getElem?_append_left hk] at hx
   have := c.fm k x hx
   exact ⟨this.1, this.2.1, by omega⟩
  ·have := (List.getElem?_eq_some_iff.1 hx).1
   have hke : k = (s.cl j).forms.length := by omega
   subst hke
   rw [List.getElem?_append_right (by omega)] at hx
   simp only [Nat.sub_self, List.getElem?_cons_zero, Option.some.injEq] at hx
   subst hx
   exact ⟨hcl, by simp only; omega, by simp only; omega⟩
 ·rw [List.map_append, List.map_cons, List.map_nil]
  refine ⟨FitL_app.2 ⟨c.ft.1, ?_⟩, ?_⟩
  ·rw [c.ft.2]; exact ⟨hfit, trivial⟩
  ·rw [applyL_app, c.ft.2]; rfl
 ·exact c.la
 ·obtain ⟨hd, ds, qf, Tf, outs, g1, g2, g3, g4, g5, g6⟩ := c.hd
  have of := g5.outs_fit
  have om := g5.marks
  refine ⟨hd, ds ++ [(sstep qf e).1], (sstep qf e).2, applyD Tf (sstep qf e).1, (outs.map (·.1)).zip (pst e.op (outs.map (·.2)) true).2, g1, g2, g3, ?_, ?_, ?_⟩
  ·rw [List.drop_append_of_le_length hm]
   refine g4.snoc ?_ ⟨by omega, λ x hx => ?_⟩ hkk hfit ?_ ?_
   ·rw [List.length_drop, hsq]; omega
   ·obtain ⟨k, hk⟩ := List.mem_iff_getElem?.1 (List.mem_of_mem_drop hx)
    have := (c.mi k x hk).2.2
    omega
   ·rw [htag, <- g6]; exact of.1
   ·rw [htag, <- g6]; exact of.2
  ·have h1 := g5.snoc hfit
   rw [List.map_append, List.map_cons, List.map_nil]
   have e6 : (sstep qf e).1 = (pst e.op (outs.map (·.2)) true).1 := by unfold sstep; rw [htag, <- g6]
   rw [e6]
   exact h1
  ·have e6 : (sstep qf e).2 = (outs.map (·.1)).zip (pst e.op (outs.map (·.2)) true).2 := by unfold sstep; rw [htag, <- g6]
   rw [e6]
   refine (dropT_all λ m hm => ?_).symm
   have h1 := (List.of_mem_zip (show (m.1, m.2) ∈ _ from hm)).1
   obtain ⟨y, hy, h2⟩ := List.mem_map.1 h1
   have := om.1 y hy
   omega
end Go.Sl
set_option maxRecDepth 100000
namespace Go.Sl
open Go Go.Proofs
variable {G h : Heap} {L R : List Heap} {K : Value -> Heap -> Prop} {Kp : PK}
structure Look (s : Ru) (i : Nat) (e : Ed) (hd : Hd) (X : List Elm) : Prop where
 hn : s.bk.hands[i + 1]? = some hd
 hs : hd.seq = s.has i
 tg : hd.tag <= e.tag
 no : e.op.kind ≠ 0
 sq : e.op.seq = hd.seq + 1
 cl : e.op.client = i + 1
 t0 : 0 <= e.tag /\ e.tag <= s.down i
 fp : FitP X.length e.op
 fl : FitL X ((dropM e.tag hd.q).map (·.op))
 ap : applyL X ((dropM e.tag hd.q).map (·.op)) = replayD s.bk.done
 rest : ∃ ds qf Tf outs, SSim (prs (hd.taken e).q) e.tag (hd.seq + 1) (replayD (s.bk.done ++ [(hd.step e).1])) ((s.mine i).drop (s.has i + 1)) ds qf Tf /\
  CSim (i + 1) (s.down i) ((s.cl i).forms.map (·.op)) (s.cl i).text (s.bk.done.drop (s.down i)) ((hd.step e).1 :: ds) Tf outs /\ outs = dropT (s.down i) qf
theorem RInv.look {s : Ru} (h : RInv s) {i : Nat} {e : Ed} (hi : i < 3) (he : (s.mine i)[s.has i]? = some e) : ∃ hd X, Look s i e hd X := by
 have c := h.c i hi
 obtain ⟨hd, ds, qf, Tf, outs, g1, g2, g3, g4, g5, g6⟩ := c.hd
 have hlt := (List.getElem?_eq_some_iff.1 he).1
 have hdr : (s.mine i).drop (s.has i) = e :: (s.mine i).drop (s.has i + 1) := by
  rw [List.drop_eq_getElem_cons hlt]
  have := (List.getElem?_eq_some_iff.1 he).2
  rw [this]
 rw [hdr] at g4
 have hm := c.mi _ _ he
 cases g4 with
 | cons X h1 h2 h3 h4 h5 h6 h7 =>
  rw [dropT_prs, prs_ops] at h5 h6
  rw [sstep_prs] at h7 g5
  simp only at h7 g5
  exact ⟨hd, X, ⟨g1, g2, h2, h3, h1, hm.1, hm.2.2, h4, h5, h6, _, qf, Tf, outs, by rw [replayD_snoc]; exact h7, g5, g6⟩⟩
theorem Look.xl {s : Ru} {i : Nat} {e : Ed} {hd : Hd} {X : List Elm} (k : Look s i e hd X) (h : RInv s) : (X.length : Int) = (replayD s.bk.done).length - sumG ((dropM e.tag hd.q).map (·.op)) /\ X.length <= 400 /\ hd.q.length <= 192 := by
 have h1 := k.fl.len
 rw [k.ap] at h1
 have h2 := sumG_le ((dropM e.tag hd.q).map (·.op))
 have h3 := (h.b.hi _ _ k.hn).ql
 have h4 := h.small.1
 have h5 := dropM_len e.tag hd.q
 have h6 := replayD_le s.bk.done
 rw [List.length_map] at h2
 omega
theorem Look.dn {s : Ru} {i : Nat} {e : Ed} {hd : Hd} {X : List Elm} (k : Look s i e hd X) : FitP (replayD s.bk.done).length (hd.step e).1 := by
 have h1 := (past_ok (f := true) k.fp k.fl).1
 rw [k.ap] at h1
 unfold Hd.step; rw [past_pst]; exact h1
theorem Look.who {s : Ru} {i : Nat} {e : Ed} {hd : Hd} {X : List Elm} (k : Look s i e hd X) : (hd.step e).1.client = i + 1 /\ (hd.step e).1.seq = s.has i + 1 := by
 have := pst_who1 true ((dropM e.tag hd.q).map (·.op)) e.op
 unfold Hd.step; rw [past_pst, this.1, this.2, k.cl, k.sq, k.hs]
 exact ⟨rfl, rfl⟩
theorem Look.can {s : Ru} {i : Nat} {e : Ed} {hd : Hd} {X : List Elm} (k : Look s i e hd X) (h : RInv s) (hi : i < 3) : s.bk.Can e hd := by
 have hx := k.xl h
 have hs := h.small
 have ep := h.b.ep
 have cl := k.cl
 have sq := k.sq
 have ks := k.hs
 have dn := (h.c i hi).dn
 have hm := (h.c i hi).hm
 have m64 := (h.c i hi).m64
 have t0 := k.t0
 have de := h.b.de
 have ln := h.b.len
 have rl := replayD_le s.bk.done
 have hh := h.b.hi _ _ k.hn
 have ecl : e.op.client.toNat = i + 1 := by omega
 refine ⟨by omega, k.fp.valid (by omega), k.fp.ch, by omega, k.no, ?_, by rw [ecl]; exact k.hn, sq, by omega, ⟨k.tg, by omega⟩, ?_, by omega, by omega, ?_⟩
 ·rw [cl, sq, ks]; exact h.b.rv i hi _ (by omega)
 ·rw [ckN_eq hh.pw, ln, <- hx.1]; exact k.fp.fits (by omega)
 ·intro l hl
  obtain ⟨Z, z1, z2⟩ := hh.fit
  have h1 := (z1.mem l hl).pos
  have h2 := z1.len
  rw [z2] at h2
  have h3 := sumG_le (hd.q.map (·.op))
  rw [List.length_map] at h1 h3
  omega
theorem Look.tak {s : Ru} {i : Nat} {e : Ed} {hd : Hd} {X : List Elm} (k : Look s i e hd X) (h : RInv s) (hi : i < 3) : s.bk.Tak e hd := by
 have hx := k.xl h
 have hs := h.small
 have c := k.can h hi
 have de := h.b.de
 have el := h.b.el
 have rl := replayD_le s.bk.done
 have hp := k.fp.pos
 refine ⟨c.va, c.ch, by omega, c.cl, c.hn, λ j hj e1 => ?_, ?_, k.dn.mono (by omega), by omega, by omega, by omega, c.ln⟩
 ·have := h.b.hi j hj e1
  have h1 := this.ql
  have h2 := this.la
  rw [de]; omega
 ·intro l hl
  refine c.qp l ?_
  obtain ⟨m, h1, rfl⟩ := List.mem_map.1 hl
  exact List.mem_map_of_mem ((List.dropWhile_sublist _).subset h1)
theorem RInv.upOk {s : Ru} (h : RInv s) {i : Nat} (hi : i < 3) (hlt : s.has i < (s.mine i).length) : ∃ e hd, UpOk s i e hd := by
 have he : (s.mine i)[s.has i]? = some ((s.mine i)[s.has i]'hlt) := List.getElem?_eq_getElem _
 generalize (s.mine i)[s.has i]'hlt = e at he
 obtain ⟨hd, X, k⟩ := h.look hi he
 have hx := k.xl h
 have hs := h.small
 have t0 := k.t0
 have dn := (h.c i hi).dn
 have de := h.b.de
 refine ⟨e, hd, he, k.can h hi, k.tak h hi, by omega, k.fp.mono (by omega), by omega, de.symm, by omega, by omega, ?_, h.b.cn⟩
 refine FitL.fit (FitL_app.2 ⟨h.b.fitl, k.dn, trivial⟩) (by rw [List.length_append, List.length_singleton]; omega)
theorem UpOk.look {s : Ru} {i : Nat} {e : Ed} {hd : Hd} (h : RInv s) (hi : i < 3) (ok : UpOk s i e hd) : ∃ X, Look s i e hd X := by
 obtain ⟨hd2, X, k⟩ := h.look hi ok.he
 have h1 := ok.can.hn
 have cl := k.cl
 rw [show e.op.client.toNat = i + 1 by omega, k.hn] at h1
 cases h1
 exact ⟨X, k⟩
theorem RInv.up {s : Ru} (h : RInv s) {i : Nat} {e : Ed} {hd : Hd} (hi : i < 3) (hlt : s.has i < (s.mine i).length) (ok : UpOk s i e hd) : RInv (s.upped i e hd) := by
 obtain ⟨X, k⟩ := ok.look h hi
 have b := h.b
 have hs := h.small
 have who := k.who
 have dnf := k.dn
 have cl := k.cl
 have sq := k.sq
 have ks := k.hs
 have de := b.de
 have hcl : e.op.client.toNat = i + 1 := by omega
 have e0 : (s.upped i e hd).bk.done = s.bk.done ++ [(hd.step e).1] := rfl
 have e1 : (s.upped i e hd).its = s.its ++ [.edit e] := rfl
 have e2 : (s.upped i e hd).has = upd s.has i (s.has i + 1) := rfl
 have e3 : ∀ j, (s.upped i e hd).bk.hands[j]? = ((s.bk.hands.set (i + 1) (hd.taken e))[j]?).map λ h => if j < 65 /\ j ≠ i + 1 then keepH ((s.bk.done.length + 1 : Nat) : Int) (hd.step e).1 h else h := λ j => by
  show (kH ((s.bk.edits.length + 1 : Nat) : Int) (hd.step e).1 e.op.client.toNat 65 (s.bk.hands.set e.op.client.toNat (hd.taken e)))[j]? = _
  rw [kH_get, hcl, de]
 have hlen := b.hl
 have eh1 : (s.upped i e hd).bk.hands[i + 1]? = some (hd.taken e) := by
  rw [e3, List.getElem?_set_self (by omega)]
  simp
 have eh2 : ∀ j, j ≠ i + 1 -> (s.upped i e hd).bk.hands[j]? = (s.bk.hands[j]?).map (keepH ((s.bk.done.length + 1 : Nat) : Int) (hd.step e).1) := λ j hj => by
  rw [e3, List.getElem?_set_ne (Ne.symm hj)]
  rcases Nat.lt_or_ge j 65 with h65 | h65
  ·simp [h65, hj]
  ·rw [List.getElem?_eq_none (by omega)]; rfl
 have hup : ∀ j, upd s.has i (s.has i + 1) j = s.has j + if j = i then 1 else 0 := λ j => by
  by_cases hji : j = i
  ·subst hji; rw [upd_self, if_pos rfl]
  ·rw [upd_ne hji, if_neg hji]; rfl
 have hN : (s.bk.done ++ [(hd.step e).1]).length = s.bk.done.length + 1 := by simp
 refine ⟨⟨?_, ?_, ?_, ?_, b.bo, b.ep, ?_, ?_, ?_, ?_, ?_, ?_, ?_, ?_, ?_, ?_, ?_, ?_⟩, λ j hj => ?_⟩
 ·rw [e0, hN, e2, hup, hup, hup, b.nn]
  have : i = 0 ∨ i = 1 ∨ i = 2 := by omega
  rcases this with rfl | rfl | rfl <;> simp <;> omega
 ·show (s.bk.edits ++ [e]).length = _
  rw [e0, hN, List.length_append, List.length_singleton, de]
 ·rw [e0]; exact FitL_app.2 ⟨b.fitl, dnf, trivial⟩
 ·show s.bk.length + gr (hd.step e).1 = _
  rw [e0, replayD_snoc, dnf.len, b.len]
 ·rw [e0, e1, hN, List.length_append, List.length_singleton, b.il]; rfl
 ·show (s.bk.edited ++ [_]).length = _
  rw [e1, List.length_append, List.length_append, b.el]; rfl
 ·intro v hv
  rw [e0, hN]
  rcases List.mem_append.1 (show v ∈ s.bk.edited ++ [((s.bk.edits.length + 1 : Nat) : Int)] from hv) with hv | hv
  ·have := b.ev v hv; omega
  ·rw [List.mem_singleton.1 hv, de]; omega
 ·rw [e0, e1, hN, List.countP_append, b.cn]; rfl
 ·rw [e1]; exact b.run.snoc (.edit ok.can ok.tak ok.tg ok.fp .nil)
 ·rw [e1, List.map_append, frames_app, List.length_append]
  show s.syn <= _
  have := b.syn; omega
 ·show (kH _ _ _ _ (s.bk.hands.set _ _)).length = 65
  rw [kH_len, List.length_set]; exact hlen
 ·intro j x hx
  rw [e0, hN, replayD_snoc]
  by_cases hj : j = i + 1
  ·subst hj
   rw [eh1] at hx
   cases hx
   exact (b.hi _ _ k.hn).taken k.fp k.fl k.ap
  ·rw [eh2 j hj] at hx
   obtain ⟨y, hy, rfl⟩ := Option.map_eq_some_iff.1 hx
   exact (b.hi _ _ hy).push dnf
 ·intro j hj q hq
  rw [e2, hup] at hq
  show (if ((j : Int) + 1, q) = (e.op.client, e.op.seq) then _ else s.bk.revs ((j : Int) + 1, q)) = none
  rw [if_neg]
  ·exact b.rv j hj q (by omega)
  ·intro he
   rw [Prod.mk.injEq, cl, sq, ks] at he
   have : j = i := by omega
   subst this
   rw [if_pos rfl] at hq
   omega
 ·intro n o ho
  rw [e0] at ho ⊢
  rcases Nat.lt_or_ge n s.bk.done.length with hk | hk
  ·rw [List.getElem?_append_left hk] at ho
   rw [List.take_append_of_le_length (by omega)]
   exact b.sq n o ho
  ·have := (List.getElem?_eq_some_iff.1 ho).1
   have hke : n = s.bk.done.length := by omega
   subst hke
   rw [List.getElem?_append_right (by omega)] at ho
   simp only [Nat.sub_self, List.getElem?_cons_zero, Option.some.injEq] at ho
   subst ho
   rw [List.take_append_of_le_length (by omega), List.take_length, who.1, who.2, b.hc i hi]
 ·intro o ho
  rw [e0] at ho
  rcases List.mem_append.1 ho with ho | ho
  ·exact b.cl o ho
  ·rw [List.mem_singleton.1 ho, who.1]; omega
 ·intro j hj
  rw [e0, cntC_snoc, b.hc j hj, e2, hup, who.1]
  by_cases hji : j = i
  ·subst hji; rw [if_pos rfl, if_pos rfl]
  ·rw [if_neg hji, if_neg (by omega)]
 have c := h.c j hj
 have dn := c.dn
 have tk : (s.bk.done ++ [(hd.step e).1]).take (s.down j) = s.bk.done.take (s.down j) := List.take_append_of_le_length dn
 have hm := c.hm
 refine ⟨c.id, c.ep, c.md, c.hv, c.cu, c.ba, c.he, c.m64, ?_, ?_, c.fl, c.le, c.pe, c.fo, c.tx, c.mi, c.fm, ?_, ?_, ?_⟩
 ·rw [e2, hup]
  show _ <= (s.mine j).length
  by_cases hji : j = i
  ·subst hji; rw [if_pos rfl]; omega
  ·rw [if_neg hji]; omega
 ·rw [e0, hN]; show s.down j <= _; omega
 ·rw [e0]; show FitL (replayD ((s.bk.done ++ [(hd.step e).1]).take (s.down j))) _ /\ applyL (replayD ((s.bk.done ++ [(hd.step e).1]).take (s.down j))) _ = _
  rw [tk]; exact c.ft
 ·rw [e0]
  show _ /\ ∀ c : Nat, 1 <= c -> c <= 3 -> c ≠ j + 1 -> (s.cl j).last[c]? = some (cntC c ((s.bk.done ++ [(hd.step e).1]).take (s.down j)) : Int)
  rw [tk]; exact c.la
 ·rw [e0]
  have dr : (s.bk.done ++ [(hd.step e).1]).drop (s.down j) = s.bk.done.drop (s.down j) ++ [(hd.step e).1] := List.drop_append_of_le_length dn
  show ∃ hd' ds qf Tf outs, (s.upped i e hd).bk.hands[j + 1]? = some hd' /\ hd'.seq = (((s.upped i e hd).has j : Nat) : Int) /\ hd'.tag <= s.down j /\
   SSim (prs hd'.q) hd'.tag hd'.seq (replayD (s.bk.done ++ [(hd.step e).1])) ((s.mine j).drop ((s.upped i e hd).has j)) ds qf Tf /\
   CSim (j + 1) (s.down j) ((s.cl j).forms.map (·.op)) (s.cl j).text ((s.bk.done ++ [(hd.step e).1]).drop (s.down j)) ds Tf outs /\ outs = dropT (s.down j) qf
  rw [dr, e2, hup]
  by_cases hji : j = i
  ·subst hji
   obtain ⟨ds, qf, Tf, outs, r1, r2, r3⟩ := k.rest
   rw [if_pos rfl]
   have t0 := k.t0
   refine ⟨hd.taken e, ds, qf, Tf, outs, eh1, by show e.op.seq = _; rw [sq, ks]; rfl, t0.2, ?_, r2.pushOwn who.1, r3⟩
   have : (hd.taken e).seq = hd.seq + 1 := sq
   rw [this]
   exact r1
  ·obtain ⟨hd2, ds, qf, Tf, outs, g1, g2, g3, g4, g5, g6⟩ := c.hd
   rw [if_neg hji]
   have hfl := g4.fitl
   have hpk := past_ok (f := false) dnf hfl.1
   rw [hfl.2] at hpk
   have hrl : (s.bk.done.drop (s.down j)).length = s.bk.done.length - s.down j := List.length_drop
   have hmk : (s.down j : Int) + (s.bk.done.drop (s.down j)).length + 1 = ((s.bk.done.length + 1 : Nat) : Int) := by rw [hrl]; omega
   refine ⟨keepH ((s.bk.done.length + 1 : Nat) : Int) (hd.step e).1 hd2, (pst (hd.step e).1 ds false).2, qf ++ [(((s.bk.done.length + 1 : Nat) : Int), (pst (hd.step e).1 ds false).1)], applyD Tf (pst (hd.step e).1 ds false).1, outs ++ [(((s.bk.done.length + 1 : Nat) : Int), (pst (hd.step e).1 ds false).1)], ?_, g2, g3, ?_, ?_, ?_⟩
   ·rw [eh2 _ (by omega), g1]; rfl
   ·rw [replayD_snoc]
    have eq : prs (keepH ((s.bk.done.length + 1 : Nat) : Int) (hd.step e).1 hd2).q = prs hd2.q ++ [(((s.bk.done.length + 1 : Nat) : Int), (hd.step e).1)] := by simp [prs, keepH]
    rw [eq]
    refine g4.push (λ x hx => ?_) dnf
    obtain ⟨n, hn⟩ := List.mem_iff_getElem?.1 (List.mem_of_mem_drop hx)
    have := (c.mi n x hn).2.2
    omega
   ·rw [<- hmk]
    exact g5.push (by rw [who.1]; omega) hpk.1
   ·rw [dropT_app (by simp only; omega), g6]
end Go.Sl
set_option maxRecDepth 100000
namespace Go.Sl
open Go Go.Proofs
variable {G h : Heap} {L R : List Heap} {K : Value -> Heap -> Prop} {Kp : PK}
structure RecOk (s : Ru) (i : Nat) (o : Op) : Prop where
 ho : s.bk.done[s.down i]? = some o
 own : o.client = i + 1 -> ∃ m rest, (s.cl i).forms = m :: rest /\ m.op = o
 other : o.client ≠ i + 1 -> FitP (s.cl i).text.length (pst o ((s.cl i).forms.map (·.op)) false).1
 acc : (s.cl i).Acc o
 fit : FitP (replayD (s.bk.done.take (s.down i))).length o
theorem RInv.recd {s : Ru} (h : RInv s) {i : Nat} {o : Op} (hi : i < 3) (ho : s.bk.done[s.down i]? = some o) : RecOk s i o := by
 have c := h.c i hi
 have b := h.b
 have hs := h.small
 obtain ⟨hd, ds, qf, Tf, outs, g1, g2, g3, g4, g5, g6⟩ := c.hd
 have hlt := (List.getElem?_eq_some_iff.1 ho).1
 have hdr : s.bk.done.drop (s.down i) = o :: s.bk.done.drop (s.down i + 1) := by
  rw [List.drop_eq_getElem_cons hlt]
  have := (List.getElem?_eq_some_iff.1 ho).2
  rw [this]
 have hfit : FitP (replayD (s.bk.done.take (s.down i))).length o := b.fitl.at ho
 have hrl := replayD_len s.bk.done (s.down i)
 have m64 := c.m64
 have fo := c.fo
 have tx := c.tx
 have pe := c.pe
 have id := c.id
 have own : o.client = i + 1 -> ∃ m rest, (s.cl i).forms = m :: rest /\ m.op = o := λ e => by
  rw [hdr] at g5
  generalize hF : (s.cl i).forms = F at g5
  cases F with
  | nil => cases g5 with | other h _ _ => exact absurd e h
  | cons m rest =>
   refine ⟨m, rest, rfl, ?_⟩
   generalize hX : (m :: rest).map (·.op) = Y at g5
   cases g5 with
   | other h _ _ => exact absurd e h
   | own _ _ => rw [List.map_cons] at hX; cases hX; rfl
 have other : o.client ≠ i + 1 -> FitP (s.cl i).text.length (pst o ((s.cl i).forms.map (·.op)) false).1 := λ e => by
  have := (past_ok (f := false) hfit c.ft.1).1
  rwa [c.ft.2] at this
 refine ⟨ho, own, other, ⟨by omega, by omega, by omega, λ l hl => ?_, hfit.mono (by omega), λ e => ?_, λ e => ⟨?_, ?_⟩⟩, hfit⟩
 ·have := (c.ft.1.mem l hl).pos
  rw [List.length_map] at this
  omega
 ·rw [id] at e
  obtain ⟨m, rest, h1, h2⟩ := own e
  refine ⟨⟨m.mark, rest, by rw [h1, <- h2]⟩, ?_⟩
  intro h0
  rw [h0, h1] at pe
  simp at pe
 ·rw [id] at e
  have hcl := b.cl o (List.mem_of_getElem? ho)
  have h1 := b.sq _ _ ho
  have h2 := c.la.2 o.client.toNat (by omega) (by omega) (by omega)
  rw [h2, h1]
  have : ((o.client.toNat : Nat) : Int) = o.client := by omega
  rw [this]; congr 1; omega
 ·rw [id] at e
  rw [past_pst]; exact other e
theorem RInv.downOk {s : Ru} (h : RInv s) {i : Nat} (hi : i < 3) (hlt : s.down i < s.bk.done.length) : ∃ o, DownOk s i o := by
 have ho : s.bk.done[s.down i]? = some (s.bk.done[s.down i]'hlt) := List.getElem?_eq_getElem _
 generalize s.bk.done[s.down i]'hlt = o at ho
 have r := h.recd hi ho
 have c := h.c i hi
 have hs := h.small
 have hv := c.hv
 exact ⟨o, ho, r.acc, c.he, c.cu, c.ba, c.ep, c.id, by omega, by omega, by omega⟩
theorem RInv.down {s : Ru} (h : RInv s) {i : Nat} {o : Op} (hi : i < 3) (ho : s.bk.done[s.down i]? = some o) : RInv (s.downed i o) := by
 have b := h.b
 have r := h.recd hi ho
 refine ⟨⟨b.nn, b.de, b.fitl, b.len, b.bo, b.ep, b.il, b.el, b.ev, b.cn, b.run, b.syn, b.hl, b.hi, b.rv, b.sq, b.cl, b.hc⟩, λ j hj => ?_⟩
 by_cases hji : j ≠ i
 ·exact (h.c j hj).off (upd_ne hji) rfl rfl (upd_ne hji) rfl
 rw [Decidable.not_not] at hji
 subst hji
 have c := h.c j hj
 have hs := h.small
 have hlt := (List.getElem?_eq_some_iff.1 ho).1
 have hdr : s.bk.done.drop (s.down j) = o :: s.bk.done.drop (s.down j + 1) := by
  rw [List.drop_eq_getElem_cons hlt]
  have := (List.getElem?_eq_some_iff.1 ho).2
  rw [this]
 have htk := take_snoc ho
 obtain ⟨hd, ds, qf, Tf, outs, g1, g2, g3, g4, g5, g6⟩ := c.hd
 rw [hdr] at g5
 have e1 : (s.downed j o).cl j = (s.cl j).recvd o := upd_self _ _ _
 have e2 : (s.downed j o).mine = s.mine := rfl
 have e3 : (s.downed j o).has = s.has := rfl
 have e4 : (s.downed j o).down j = s.down j + 1 := upd_self _ _ _
 have e5 : (s.downed j o).bk = s.bk := rfl
 have id := c.id
 have hv := c.hv
 have cu := c.cu
 have tx := c.tx
 have fo := c.fo
 have pe := c.pe
 have hcl := b.cl o (List.mem_of_getElem? ho)
 have hseq := b.sq _ _ ho
 have mi : ∀ (k : Nat) (e : Ed), (s.mine j)[k]? = some e -> e.op.client = j + 1 /\ e.op.seq = k + 1 /\ 0 <= e.tag /\ e.tag <= ((s.down j + 1 : Nat) : Int) := λ k e he => by
  have := c.mi k e he
  exact ⟨this.1, this.2.1, this.2.2.1, by omega⟩
 by_cases hown : o.client = j + 1
 ·obtain ⟨m, rest, hf, hm⟩ := r.own hown
  have ef : (s.cl j).recvd o = { s.cl j with cum := (s.cl j).cum + 1, held := none, have_ := (s.cl j).have_ + 1, pend := (s.cl j).pend.drop 1, forms := rest } := by
   unfold Cl.recvd
   rw [if_pos (by rw [id]; exact hown)]
   have hd2 : dropM o.seq (s.cl j).forms = rest := by
    have f0 := c.fm 0 m (by rw [hf]; rfl)
    rw [hf]
    refine (dropM_eq (n := 1) (by simp) (λ k x hk hx => ?_) (λ x hx => ?_)).trans rfl
    ·have : k = 0 := by omega
     subst this
     cases hx
     rw [<- hm, f0.2.1]; exact Int.le_refl _
    ·have f1 := c.fm 1 x (by rw [hf]; exact hx)
     rw [<- hm, f0.2.1]
     omega
   rw [hd2]
  have hfl : (s.cl j).forms.length = rest.length + 1 := by rw [hf]; rfl
  have g5' : CSim (j + 1) (((s.down j + 1 : Nat) : Int)) (rest.map (·.op)) (s.cl j).text (s.bk.done.drop (s.down j + 1)) ds Tf outs := by
   rw [hf, List.map_cons, hm] at g5
   cases g5 with
   | own _ h => exact h
   | other h _ _ => exact absurd hown h
  refine ⟨?_, ?_, ?_, ?_, ?_, ?_, ?_, ?_, ?_, ?_, ?_, ?_, ?_, ?_, ?_, ?_, ?_, ?_, ?_, ?_⟩ <;> (try simp only [e1, e2, e3, e4, e5, ef])
  ·exact id
  ·exact c.ep
  ·exact c.md
  ·omega
  ·omega
  ·exact c.ba
  ·exact c.m64
  ·exact c.hm
  ·omega
  ·exact c.fl
  ·exact c.le
  ·rw [List.length_drop]; omega
  ·omega
  ·omega
  ·exact mi
  ·intro k x hx
   have := c.fm (k + 1) x (by rw [hf]; exact hx)
   exact ⟨this.1, this.2.1, by omega⟩
  ·have ft := c.ft
   rw [hf, List.map_cons, hm] at ft
   rw [replayD_succ ho]
   exact ⟨ft.1.2, ft.2⟩
  ·refine ⟨c.la.1, λ k k1 k2 k3 => ?_⟩
   rw [c.la.2 k k1 k2 k3, htk, cntC_snoc, if_neg (by omega)]; rfl
  ·refine ⟨hd, ds, qf, Tf, outs, g1, g2, by omega, g4, g5', ?_⟩
   have om := g5'.marks
   have : dropT ((s.down j : Int) + 1) qf = outs := by
    rw [<- dropT_succ, <- g6]
    exact dropT_all om.1
   exact this.symm
 ·have hpl : (pst o ((s.cl j).forms.map (·.op)) false).2.length = (s.cl j).forms.length := by rw [pst_len, List.length_map]
  have ef : (s.cl j).recvd o = { s.cl j with cum := (s.cl j).cum + 1, held := none, have_ := (s.cl j).have_ + 1, last := (s.cl j).last.set o.client.toNat o.seq, forms := remk (s.cl j).forms (pst o ((s.cl j).forms.map (·.op)) false).2, text := applyD (s.cl j).text (pst o ((s.cl j).forms.map (·.op)) false).1 } := by
   unfold Cl.recvd
   rw [if_neg (by rw [id]; exact hown), past_pst]
  have hrm := remk_marks hpl
  have hro := remk_ops hpl
  have hrl : (remk (s.cl j).forms (pst o ((s.cl j).forms.map (·.op)) false).2).length = (s.cl j).forms.length := by
   have := congrArg List.length hrm
   simpa using this
  have hw := pst_who2 false ((s.cl j).forms.map (·.op)) o
  have htl := applyD_len1 (s.cl j).text (pst o ((s.cl j).forms.map (·.op)) false).1
  have hpk := past_ok (f := false) r.fit c.ft.1
  generalize hgx : remk (s.cl j).forms (pst o ((s.cl j).forms.map (·.op)) false).2 = fs at *
  refine ⟨?_, ?_, ?_, ?_, ?_, ?_, ?_, ?_, ?_, ?_, ?_, ?_, ?_, ?_, ?_, ?_, ?_, ?_, ?_, ?_⟩ <;> (try simp only [e1, e2, e3, e4, e5, ef])
  ·exact id
  ·exact c.ep
  ·exact c.md
  ·omega
  ·omega
  ·exact c.ba
  ·exact c.m64
  ·exact c.hm
  ·omega
  ·exact c.fl
  ·exact c.le
  ·omega
  ·omega
  ·omega
  ·exact mi
  ·intro k x hx
   have hk := (List.getElem?_eq_some_iff.1 hx).1
   have hy : (s.cl j).forms[k]? = some ((s.cl j).forms[k]'(by omega)) := List.getElem?_eq_getElem _
   generalize (s.cl j).forms[k]'(by omega) = y at hy
   have := c.fm k y hy
   have h1 : x.mark = y.mark := by
    have := congrArg (·[k]?) hrm
    simpa [List.getElem?_map, hx, hy] using this
   have h2 : x.op.client = y.op.client /\ x.op.seq = y.op.seq := by
    rw [<- hro] at hw
    have := congrArg (·[k]?) hw
    simpa [List.getElem?_map, hx, hy] using this
   rw [h2.1, h2.2, h1]
   exact ⟨this.1, this.2.1, by omega⟩
  ·rw [replayD_succ ho, hro]
   refine ⟨hpk.2.1, ?_⟩
   rw [hpk.2.2, c.ft.2]
  ·refine ⟨by rw [List.length_set]; exact c.la.1, λ k k1 k2 k3 => ?_⟩
   have hl65 := c.la.1
   rw [htk, cntC_snoc]
   by_cases hk : k = o.client.toNat
   ·subst hk
    rw [List.getElem?_set_self (by omega), if_pos (by omega), hseq]
    have : ((o.client.toNat : Nat) : Int) = o.client := by omega
    rw [this]; rfl
   ·rw [List.getElem?_set_ne (Ne.symm hk), if_neg (by omega)]
    exact c.la.2 k k1 k2 k3
  ·generalize hF : (s.cl j).forms.map (·.op) = F at g5
   cases g5 with
   | own h _ => exact absurd h hown
   | @other _ _ _ _ _ _ _ outs' _ _ h3 =>
    refine ⟨hd, ds, qf, Tf, outs', g1, g2, by omega, g4, by rw [hro, hF]; exact h3, ?_⟩
    have om := h3.marks
    have : dropT ((s.down j : Int) + 1) qf = outs' := by
     rw [<- dropT_succ, <- g6]
     show dropT _ (((s.down j : Int) + 1, _) :: outs') = outs'
     have e9 : ∀ x, dropT ((s.down j : Int) + 1) (((s.down j : Int) + 1, x) :: outs') = dropT ((s.down j : Int) + 1) outs' := λ x => by
      unfold dropT; rw [List.dropWhile_cons]; simp
     rw [e9]
     exact dropT_all om.1
    exact this.symm
theorem RInv.good {s : Ru} (h : RInv s) : Good s := by
 have hs := h.small
 have b := h.b
 have ep := b.ep
 have il := b.il
 have el := b.el
 have bo := b.bo
 refine ⟨λ i hi => (h.c i hi).m64, λ i hi hlt => ?_, λ i hi => ?_, λ i hi hlt => h.upOk hi hlt, λ i hi hlt => h.downOk hi hlt, λ hb => ?_, ?_⟩
 ·have c := h.c i hi
  have tx := c.tx
  have dn := c.dn
  have md := c.md
  have fl := c.fl
  have fo := c.fo
  have le := c.le
  have pe := c.pe
  have id := c.id
  have e := c.ep
  exact ⟨by omega, by omega, by omega, by omega, by omega, by omega, by omega, by omega⟩
 ·have c := h.c i hi
  have tx := c.tx
  have dn := c.dn
  have m := c.m64
  omega
 ·exact ⟨by omega, by omega, by omega, by omega, by omega, b.cn⟩
 ·refine ⟨by omega, by omega, b.syn, el, λ v hv => ?_⟩
  have := b.ev v hv
  omega
theorem RInv.step {s t : Ru} (h : RInv s) (ht : Stp3 s t) : RInv t := by
 cases ht with
 | none => exact h
 | edit i o h1 h2 h3 => exact h.edit h1 h2 h3
 | up i e hd h1 h2 h3 => exact h.up h1 h2 h3
 | down i o h1 h2 h3 => exact h.down h1 h3.ho
 | boot h1 => exact h.boot h1
 | sync => exact h.sync
theorem rinvs : Invs RInv where
 z := inv0
 st _ _ h ht := h.step ht
 gd _ h := h.good
 run _ h := h.b.run
 il s h := by have := h.small; omega
 fr s h := by have := h.small; omega
 de _ h := h.b.de.symm
 ed s h := by have := h.small; have := h.b.de; omega
 fit s h := h.b.fitl.fit (by have := h.small; omega)
end Go.Sl
set_option maxRecDepth 100000
namespace Go.Sl
open Go Go.Proofs
variable {G h : Heap} {L R : List Heap} {K : Value -> Heap -> Prop} {Kp : PK}
structure RView (p : Option Addr) (s : Ru) (c : Heap) (r : Nat) (d : Option Addr) (dc1 : Option Addr) (dc3 : Nat) (dn1 : Option Addr) (dn3 : Nat) (en rv : Hdr) (hds : List Hdr) : Prop where
 hp : p = some ⟨r, 0, none⟩
 disk : ∀ {G h : Heap} {L : List Heap}, Own G h L -> c ∈ L -> hcell (rd G h) ⟨r, 0 + 3, none⟩ = some (.pointer d)
 docs : ∀ {G h : Heap} {L : List Heap}, Own G h L -> c ∈ L -> hcell (rd G h) ⟨r, 0 + 14, none⟩ = some (.slice dc1 (s.bk.done.length + 1) dc3)
 done : ∀ {G h : Heap} {L : List Heap}, Own G h L -> c ∈ L -> hcell (rd G h) ⟨r, 0 + 15, none⟩ = some (.slice dn1 s.bk.done.length dn3)
 ends : ∀ {G h : Heap} {L : List Heap}, Own G h L -> c ∈ L -> hcell (rd G h) ⟨r, 0 + 16, none⟩ = some (.slice en.1 en.2.1 en.2.2)
 revs : ∀ {G h : Heap} {L : List Heap}, Own G h L -> c ∈ L -> hcell (rd G h) ⟨r, 0 + 17, none⟩ = some (.slice rv.1 rv.2.1 rv.2.2)
 dl : ∀ {L : List Heap}, c ∈ L -> Rdl L eDc dc1 (s.bk.done.length + 1) hds
 hl : hds.length = s.bk.done.length + 1
 dd : ∀ {k : Nat} {y : Hdr}, hds[k]? = some y -> k <= s.bk.done.length -> ∀ {L : List Heap}, c ∈ L -> Rdl L eElm y.1 y.2.1 (replayD (s.bk.done.take k))
 el : ∀ {L : List Heap}, c ∈ L -> Rdl L eI en.1 en.2.1 (endsI s.its)
 rl : ∀ {L : List Heap}, c ∈ L -> Rdl L eI rv.1 rv.2.1 (revsI s.its)
 df : ∀ {k : Nat} {y : Hdr}, hds[k]? = some y -> y.2.1 <= y.2.2 /\ ∀ a, y.1 = some a -> a.spot = none
theorem mem_perm {c : Heap} {L : List Heap} (h : c ∈ L) : ∃ R, (c :: R).Perm L := by
 obtain ⟨a, b, rfl⟩ := List.append_of_mem h
 exact ⟨a ++ b, List.perm_middle.symm⟩
theorem RunP.view {p : Option Addr} {s : Ru} {c : Heap} (hq : RunP p s c) : ∃ r d dc1 dc3 dn1 dn3 en rv hds, RView p s c r d dc1 dc3 dn1 dn3 en rv hds := by
 obtain ⟨d, b, r, C, M, dc, dn, en, rv, hds, dcs, cc, cm, cb, c1, c2, c3, c4, hp, hcl, hb, hm, hd1, hd2, hdn, hen, hrv, hj⟩ := hq
 obtain ⟨dn1, dn2, dn3⟩ := dn
 obtain ⟨dc1, dc2, dc3⟩ := dc
 simp only at hdn hd1
 have e3 := hdn.len
 have e4 := hd1.len
 have e5 := hd2.l1
 have e6 := hd2.l2
 rw [docsOf_len] at e5 e6
 rw [e5] at e4
 subst e3
 subst e4
 have op : ∀ {G h : Heap} {L R : List Heap}, Own G h L -> (c :: R).Perm L -> Own G h (single r (ruB C d b M (λ i => s.has i) (λ i => s.down i) (dc1, s.bk.done.length + 1, dc3) (dn1, s.bk.done.length, dn3) en rv s.boots) :: cb :: cc 0 :: cc 1 :: cc 2 :: cm 0 :: cm 1 :: cm 2 :: c1 :: c2 :: c3 :: c4 :: (dcs ++ R)) := λ hO hR => (hO.perm hR.symm.symm).openJ hj |> λ h => h
 refine ⟨r, d, dc1, dc3, dn1, dn3, en, rv, hds, hp, ?_, ?_, ?_, ?_, ?_, ?_, e5, ?_, ?_, ?_, ?_⟩
 ·intro G h L hO hc; obtain ⟨R, hR⟩ := mem_perm hc; exact hcell_own (op hO hR) inferInstance (by with_unfolding_all rfl)
 ·intro G h L hO hc; obtain ⟨R, hR⟩ := mem_perm hc; exact hcell_own (op hO hR) inferInstance (by with_unfolding_all rfl)
 ·intro G h L hO hc; obtain ⟨R, hR⟩ := mem_perm hc; exact hcell_own (op hO hR) inferInstance (by with_unfolding_all rfl)
 ·intro G h L hO hc; obtain ⟨R, hR⟩ := mem_perm hc; exact hcell_own (op hO hR) inferInstance (by with_unfolding_all rfl)
 ·intro G h L hO hc; obtain ⟨R, hR⟩ := mem_perm hc; exact hcell_own (op hO hR) inferInstance (by with_unfolding_all rfl)
 ·intro L hc G h hO
  obtain ⟨R, hR⟩ := mem_perm hc
  exact (hd1.rdO (op hO hR) (by simp)) _ _ (op hO hR)
 ·intro k y hy hk L hc G h hO
  obtain ⟨R, hR⟩ := mem_perm hc
  have hcc : dcs[k]? = some (dcs[k]'(by omega)) := List.getElem?_eq_getElem _
  exact hd2.rd k y _ _ hy (docsOf_get hk) hcc _ (by simp [List.getElem_mem]) _ _ (op hO hR)
 ·intro L hc G h hO
  obtain ⟨R, hR⟩ := mem_perm hc
  exact (hen.rdO (op hO hR) (by simp)) _ _ (op hO hR)
 ·intro L hc G h hO
  obtain ⟨R, hR⟩ := mem_perm hc
  exact (hrv.rdO (op hO hR) (by simp)) _ _ (op hO hR)
 ·intro k y hy
  exact hd2.fl k y hy
theorem RView.docF {p : Option Addr} {s : Ru} {c : Heap} {r : Nat} {d dc1 : Option Addr} {dc3 : Nat} {dn1 : Option Addr} {dn3 : Nat} {en rv : Hdr} {hds : List Hdr} (v : RView p s c r d dc1 dc3 dn1 dn3 en rv hds) {k : Nat} (hk : k <= s.bk.done.length) {G0 h0 : Heap} {L0 : List Heap} (hO0 : Own G0 h0 L0) (hc0 : c ∈ L0) :
  ∃ y : Hdr, y.2.1 = (replayD (s.bk.done.take k)).length /\ (∀ {L : List Heap}, c ∈ L -> Rdl L eElm y.1 y.2.1 (replayD (s.bk.done.take k))) /\ (y.2.1 <= y.2.2 /\ ∀ a, y.1 = some a -> a.spot = none) /\
   ∀ {G h : Heap} {L : List Heap}, Own G h L -> c ∈ L -> ∀ K, (∀ a, dc1 = some a -> hcell (rd G h) (a.add (k * 1)) = some (.slice y.1 y.2.1 y.2.2) -> K a) -> NN dc1 K := by
 have hl := v.hl
 have hy : hds[k]? = some (hds[k]'(by omega)) := List.getElem?_eq_getElem _
 generalize hds[k]'(by omega) = y at hy
 refine ⟨y, ?_, v.dd hy hk, v.df hy, λ {G h L} hO hc K hK => ?_⟩
 ·exact (v.dd hy hk hc0).len hO0
 ·obtain ⟨y2, hy2, hn'⟩ := (v.dl hc).at eDc_ok hO (i := (k : Int)) (by omega) (by omega)
  rw [Int.toNat_natCast] at hy2 hn'
  rw [hy] at hy2
  cases hy2
  exact hn' K λ a ha hcell => hK a ha (hcell 0 _ rfl)
end Go.Sl
set_option maxRecDepth 100000
namespace Go.Sl
open Go Go.Proofs
variable {G h : Heap} {L R : List Heap} {K : Value -> Heap -> Prop} {Kp : PK}
def tS (c : Int) (d : List Elm) : Nat := d.countP λ e => e.client == c
end Go.Sl
set_option maxRecDepth 100000
namespace Go.Sl
open Go Go.Proofs
variable {G h : Heap} {L R : List Heap} {K : Value -> Heap -> Prop} {Kp : PK}
def elO (o : Op) : Elm := ⟨o.ch, o.client, o.seq⟩
def InsAt (D : List Op) (n : Nat) (x : Elm) : Prop := ∃ o, D[n]? = some o /\ o.kind = 1 /\ elO o = x
def DelAt (D : List Op) (n : Nat) (x : Elm) : Prop := ∃ o, D[n]? = some o /\ o.kind = 2 /\ (replayD (D.take n))[o.pos.toNat]? = some x
def Apt (D : List Op) : Prop := ∀ (i j : Nat) (a b : Op), D[i]? = some a -> D[j]? = some b -> a.client = b.client -> a.seq = b.seq -> i = j
theorem InsAt.uniq {D : List Op} (hu : Apt D) {i j : Nat} {x : Elm} (h1 : InsAt D i x) (h2 : InsAt D j x) : i = j := by
 obtain ⟨a, ha, _, ea⟩ := h1
 obtain ⟨b, hb, _, eb⟩ := h2
 refine hu i j a b ha hb ?_ ?_
 ·have h1 := congrArg Elm.client ea
  have h2 := congrArg Elm.client eb
  exact h1.trans h2.symm
 ·have h1 := congrArg Elm.seq ea
  have h2 := congrArg Elm.seq eb
  exact h1.trans h2.symm
theorem mem_insL {d : List Elm} {p : Nat} {x e : Elm} : e ∈ insL p x d ↔ e = x ∨ e ∈ d := by
 have h : d = d.take p ++ d.drop p := (List.take_append_drop p d).symm
 unfold insL
 rw [List.mem_append, List.mem_append, List.mem_singleton]
 conv => rhs; rw [h, List.mem_append]
 constructor
 ·rintro ((h | h) | h)
  ·exact .inr (.inl h)
  ·exact .inl h
  ·exact .inr (.inr h)
 ·rintro (h | h | h)
  ·exact .inl (.inr h)
  ·exact .inl (.inl h)
  ·exact .inr h
theorem split_at {d : List Elm} {p : Nat} {x : Elm} (h : d[p]? = some x) : d = d.take p ++ (x :: d.drop (p + 1)) := by
 have hp := (List.getElem?_eq_some_iff.1 h).1
 have he := (List.getElem?_eq_some_iff.1 h).2
 rw [<- he, <- List.drop_eq_getElem_cons hp, List.take_append_drop]
theorem mem_delL {d : List Elm} {p : Nat} {x e : Elm} (h : d[p]? = some x) (hn : d.Nodup) : e ∈ delL p d ↔ e ∈ d /\ e ≠ x := by
 have h2 := split_at h
 have hn2 : (x :: (d.take p ++ d.drop (p + 1))).Nodup := by
  rw [h2] at hn
  exact (List.perm_middle.nodup_iff).1 hn
 have hx := (List.nodup_cons.1 hn2).1
 unfold delL
 constructor
 ·intro he
  refine ⟨?_, λ e1 => hx (e1 ▸ he)⟩
  rw [h2]
  rcases List.mem_append.1 he with he | he
  ·exact List.mem_append_left _ he
  ·exact List.mem_append_right _ (List.mem_cons_of_mem _ he)
 ·rintro ⟨he, hne⟩
  rw [h2] at he
  rcases List.mem_append.1 he with he | he
  ·exact List.mem_append_left _ he
  ·rcases List.mem_cons.1 he with he | he
   ·exact absurd he hne
   ·exact List.mem_append_right _ he
theorem nodup_insL {d : List Elm} {p : Nat} {x : Elm} (hn : d.Nodup) (hx : x ∉ d) : (insL p x d).Nodup := by
 have h : d = d.take p ++ d.drop p := (List.take_append_drop p d).symm
 have h1 : (x :: (d.take p ++ d.drop p)).Nodup := by
  rw [<- h]; exact List.nodup_cons.2 ⟨hx, hn⟩
 unfold insL
 rw [List.append_assoc]
 exact (List.perm_middle.nodup_iff).2 h1
theorem nodup_delL {d : List Elm} {p : Nat} (hn : d.Nodup) : (delL p d).Nodup := by
 unfold delL
 have : (d.take p ++ d.drop (p + 1)).Sublist d := by
  conv => rhs; rw [<- List.take_append_drop p d]
  exact List.Sublist.append (List.Sublist.refl _) (List.drop_sublist_drop_left d (by omega))
 exact hn.sublist this
theorem mem_delL_of {d : List Elm} {p : Nat} {e : Elm} (h : e ∈ delL p d) : e ∈ d := by
 unfold delL at h
 rcases List.mem_append.1 h with h | h
 ·exact List.mem_of_mem_take h
 ·exact List.mem_of_mem_drop h
theorem texts_ok {D : List Op} (hf : FitL [] D) (hu : Apt D) : ∀ k, k <= D.length -> (replayD (D.take k)).Nodup /\ ∀ x ∈ replayD (D.take k), ∃ n, n < k /\ InsAt D n x := by
 intro k
 induction k with
 | zero => intro _; exact ⟨List.Pairwise.nil, λ x hx => (by cases hx)⟩
 | succ k ih =>
  intro hk
  obtain ⟨h1, h2⟩ := ih (by omega)
  have ho : D[k]? = some (D[k]'(by omega)) := List.getElem?_eq_getElem _
  generalize D[k]'(by omega) = o at ho
  have hfo := hf.at ho
  rw [show applyL [] (D.take k) = replayD (D.take k) from rfl] at hfo
  rw [replayD_succ ho]
  rcases hfo.k with ⟨k0, hk0⟩ | ⟨k0, hk0⟩ | ⟨k0, hk0⟩
  ·rw [app0 k0]
   exact ⟨h1, λ x hx => by obtain ⟨n, h3, h4⟩ := h2 x hx; exact ⟨n, by omega, h4⟩⟩
  ·rw [app1 k0]
   have hnew : elO o ∉ replayD (D.take k) := λ hx => by
    obtain ⟨n, h3, h4⟩ := h2 _ hx
    have := h4.uniq hu ⟨o, ho, k0, rfl⟩
    omega
   refine ⟨nodup_insL h1 hnew, λ x hx => ?_⟩
   rcases mem_insL.1 hx with rfl | hx
   ·exact ⟨k, by omega, o, ho, k0, rfl⟩
   ·obtain ⟨n, h3, h4⟩ := h2 x hx; exact ⟨n, by omega, h4⟩
  ·rw [app2 k0]
   refine ⟨nodup_delL h1, λ x hx => ?_⟩
   obtain ⟨n, h3, h4⟩ := h2 x (mem_delL_of hx)
   exact ⟨n, by omega, h4⟩
theorem mem_step {D : List Op} (hf : FitL [] D) (hu : Apt D) {k : Nat} (hk : k < D.length) (x : Elm) : x ∈ replayD (D.take (k + 1)) ↔ InsAt D k x ∨ (x ∈ replayD (D.take k) /\ ¬ DelAt D k x) := by
 have ho : D[k]? = some (D[k]'hk) := List.getElem?_eq_getElem _
 generalize D[k]'hk = o at ho
 have hfo := hf.at ho
 rw [show applyL [] (D.take k) = replayD (D.take k) from rfl] at hfo
 have hnd := (texts_ok hf hu k (by omega)).1
 rw [replayD_succ ho]
 have noIns : o.kind ≠ 1 -> ¬ InsAt D k x := λ h ⟨o2, h1, h2, _⟩ => by rw [ho] at h1; cases h1; exact h h2
 have noDel : o.kind ≠ 2 -> ¬ DelAt D k x := λ h ⟨o2, h1, h2, _⟩ => by rw [ho] at h1; cases h1; exact h h2
 rcases hfo.k with ⟨k0, hk0⟩ | ⟨k0, hk0⟩ | ⟨k0, hk0⟩
 ·rw [app0 k0]
  exact ⟨λ h => .inr ⟨h, noDel (by omega)⟩, λ h => h.elim (λ h => absurd h (noIns (by omega))) (·.1)⟩
 ·rw [app1 k0, mem_insL]
  have e1 : InsAt D k x ↔ x = (⟨o.ch, o.client, o.seq⟩ : Elm) := ⟨λ ⟨o2, h1, _, h3⟩ => by rw [ho] at h1; cases h1; exact h3.symm, λ h => ⟨o, ho, k0, h.symm⟩⟩
  rw [e1]
  exact ⟨λ h => h.elim .inl λ h => .inr ⟨h, noDel (by omega)⟩, λ h => h.elim .inl λ h => .inr h.1⟩
 ·rw [app2 k0]
  have hp : (replayD (D.take k))[o.pos.toNat]? = some ((replayD (D.take k))[o.pos.toNat]'(by omega)) := List.getElem?_eq_getElem _
  generalize (replayD (D.take k))[o.pos.toNat]'(by omega) = y at hp
  rw [mem_delL hp hnd]
  have e1 : DelAt D k x ↔ x = y := ⟨λ ⟨o2, h1, _, h3⟩ => by rw [ho] at h1; cases h1; rw [hp] at h3; cases h3; rfl, λ h => ⟨o, ho, k0, by rw [h]; exact hp⟩⟩
  rw [e1]
  exact ⟨λ h => .inr h, λ h => h.elim (λ h => absurd h (noIns (by omega))) id⟩
theorem ins_mem {D : List Op} (hf : FitL [] D) (hu : Apt D) {n : Nat} {x : Elm} (h : InsAt D n x) : x ∈ replayD (D.take (n + 1)) /\ ∀ j, j <= n -> x ∉ replayD (D.take j) := by
 have hn : n < D.length := by obtain ⟨o, ho, _⟩ := h; exact (List.getElem?_eq_some_iff.1 ho).1
 refine ⟨(mem_step hf hu hn x).2 (.inl h), λ j hj hx => ?_⟩
 obtain ⟨m, h1, h2⟩ := (texts_ok hf hu j (by omega)).2 x hx
 have := h2.uniq hu h
 omega
theorem del_mem {D : List Op} (hf : FitL [] D) (hu : Apt D) {m : Nat} {x : Elm} (h : DelAt D m x) : x ∈ replayD (D.take m) /\ ∀ j, m < j -> j <= D.length -> x ∉ replayD (D.take j) := by
 obtain ⟨o, ho, k0, hx⟩ := id h
 have hm : m < D.length := (List.getElem?_eq_some_iff.1 ho).1
 have hin := List.mem_of_getElem? hx
 refine ⟨hin, λ j hj => ?_⟩
 obtain ⟨n, hn, hins⟩ := (texts_ok hf hu m (by omega)).2 x hin
 have key : ∀ i, m + 1 + i <= D.length -> x ∉ replayD (D.take (m + 1 + i)) := by
  intro i
  induction i with
  | zero =>
   intro _ hx2
   rcases (mem_step hf hu hm x).1 hx2 with h1 | ⟨_, h1⟩
   ·have := h1.uniq hu hins; omega
   ·exact h1 h
  | succ i ih =>
   intro hi hx2
   rcases (mem_step hf hu (show m + 1 + i < D.length by omega) x).1 hx2 with h1 | ⟨h1, _⟩
   ·have := h1.uniq hu hins; omega
   ·exact ih (by omega) h1
 intro hjl
 have := key (j - (m + 1)) (by omega)
 rwa [show m + 1 + (j - (m + 1)) = j by omega] at this
theorem born_ok {D : List Op} (hf : FitL [] D) (hu : Apt D) (x : Elm) : ∀ k, k <= D.length -> (∀ v, (psOf (D.take k)).born x = some v -> ∃ n, n < k /\ v = n + 1 /\ InsAt D n x) /\ (∀ n, n < k -> InsAt D n x -> (psOf (D.take k)).born x = some ((n : Int) + 1)) := by
 intro k
 induction k with
 | zero => intro _; exact ⟨λ v h => (by cases h), λ n h => (by omega)⟩
 | succ k ih =>
  intro hk
  obtain ⟨h1, h2⟩ := ih (by omega)
  have ho : D[k]? = some (D[k]'(by omega)) := List.getElem?_eq_getElem _
  generalize D[k]'(by omega) = o at ho
  have hps := psOf_take D k (by omega)
  rw [psOf_succ ho]
  by_cases k0 : o.kind = 1
  ·rw [PS.b1 k0]
   by_cases e : x = ⟨o.ch, o.client, o.seq⟩
   ·simp only [if_pos e, hps.2]
    have hin : InsAt D k x := ⟨o, ho, k0, e.symm⟩
    refine ⟨λ v hv => ⟨k, by omega, (by cases hv; rfl), hin⟩, λ n hn hi => ?_⟩
    rw [hi.uniq hu hin]
   ·simp only [if_neg e]
    refine ⟨λ v hv => ?_, λ n hn hi => ?_⟩
    ·obtain ⟨n, h3, h4, h5⟩ := h1 v hv; exact ⟨n, by omega, h4, h5⟩
    ·rcases Nat.lt_or_ge n k with hlt | hge
     ·exact h2 n hlt hi
     ·have : n = k := by omega
      subst this
      obtain ⟨o2, g1, _, g3⟩ := hi
      rw [ho] at g1; cases g1
      exact absurd g3.symm e
  ·rw [PS.b0 k0]
   refine ⟨λ v hv => ?_, λ n hn hi => ?_⟩
   ·obtain ⟨n, h3, h4, h5⟩ := h1 v hv; exact ⟨n, by omega, h4, h5⟩
   ·rcases Nat.lt_or_ge n k with hlt | hge
    ·exact h2 n hlt hi
    ·have : n = k := by omega
     subst this
     obtain ⟨o2, g1, g2, _⟩ := hi
     rw [ho] at g1; cases g1
     exact absurd g2 k0
theorem DelAt.uniq {D : List Op} (hf : FitL [] D) (hu : Apt D) {i j : Nat} {x : Elm} (h1 : DelAt D i x) (h2 : DelAt D j x) : i = j := by
 have hi : i < D.length := by obtain ⟨o, ho, _⟩ := h1; exact (List.getElem?_eq_some_iff.1 ho).1
 have hj : j < D.length := by obtain ⟨o, ho, _⟩ := h2; exact (List.getElem?_eq_some_iff.1 ho).1
 rcases Nat.lt_trichotomy i j with h | h | h
 ·exact absurd (del_mem hf hu h2).1 ((del_mem hf hu h1).2 j h (by omega))
 ·exact h
 ·exact absurd (del_mem hf hu h1).1 ((del_mem hf hu h2).2 i h (by omega))
theorem cnt_lt {c : Int} {D : List Op} {i j : Nat} {a : Op} (hij : i < j) (ha : D[i]? = some a) (hc : a.client = c) : cntC c (D.take i) + 1 <= cntC c (D.take j) := by
 have h1 : cntC c (D.take (i + 1)) = cntC c (D.take i) + 1 := by rw [take_snoc ha, cntC_snoc, if_pos hc]
 have h2 : cntC c (D.take (i + 1)) <= cntC c (D.take j) := by
  have : (D.take (i + 1)).Sublist (D.take j) := List.take_sublist_take_left (by omega)
  unfold cntC; exact this.countP_le
 omega
theorem BI.apt {s : Ru} (b : BI s) : Apt s.bk.done := by
 intro i j x y hx hy hc hq
 have h1 := b.sq i x hx
 have h2 := b.sq j y hy
 rcases Nat.lt_trichotomy i j with h | h | h
 ·have := cnt_lt h hx rfl
  rw [<- hc] at h2
  omega
 ·exact h
 ·have := cnt_lt h hy rfl
  rw [<- hc] at this h2
  omega
end Go.Sl
set_option maxRecDepth 100000
namespace Go.Sl
open Go Go.Proofs
variable {G h : Heap} {L R : List Heap} {K : Value -> Heap -> Prop} {Kp : PK}
theorem lawPlace {q : Option Addr} {l c : Nat} {d : List Elm} {x : Elm} (hO : Own G h L) (hr : Rdl L eElm q l d) (hsm : l <= 100000)
  (hK : ∀ h' (n : Int), Own G h' L -> (0 <= n -> n < l /\ d[n.toNat]? = some x) -> (n < 0 -> n = -1 /\ x ∉ d) -> K (.int .i64 n) h') :
  CallF Tryz.prog G 22 #[.slice q l c, .agg #[.int .u8 x.ch, .int .i64 x.client, .int .i64 x.seq]] K Kp h := by
 refine S22_ok ?_
 unfold S22
 have hl := hr.len hO
 refine newK.go hO ?_
 clear hO; intro r7 h hO
 refine LoopS.go (λ vs h' => ∃ (n : Nat), n <= l /\ vs = [.int .i64 n] /\ x ∉ d.take n /\ Own G h' (single r7 (.cells #[.int .u8 x.ch, .int .i64 x.client, .int .i64 x.seq] 63 (0, 0)) :: L)) (λ vs _ => match vs with | [.int _ n] => (l - n).toNat | _ => 0) ⟨0, by omega, rfl, by simp, hO⟩ ?_
 clear hO
 rintro jv vs h ⟨n, hn, rfl, hno, hO⟩
 unfold S22_l2
 refine ⟨_, rfl, If.dec (λ hlt => ?_) (λ hlt => ?_)⟩
 ·refine Rq.go ⟨by omega, hlt⟩ ?_
  obtain ⟨y, hy, hn'⟩ := (hr.cons _).at eElm_ok hO (i := (n : Int)) (by omega) hlt
  have hy' : d[n]? = some y := by simpa using hy
  refine hn' _ λ a _ hc => ?_
  refine LdI.i (hc 0 _ rfl) (LdI.i (hc 1 _ rfl) (LdI.i (hc 2 _ rfl) ?_))
  (repeat (with_reducible first | refine NN.go ?_ | refine LdI.g hO ?_ | refine LdSl.g hO ?_ | refine LdP.g hO ?_ | refine LdM.g hO ?_ | refine LdB.g hO ?_ | refine cell_g hO ?_ | refine Rq.go (by omega) ?_ | refine Rng.go (by omega) ?_ | (refine st1.g hO ?_; clear hO; intro h hO; dsimp only [ad, List.set] at hO)))
  refine If.mk (λ e => ?_) (λ e => ?_)
  ·have hyx : y = x := by
    obtain ⟨y1, y2, y3⟩ := y
    obtain ⟨x1, x2, x3⟩ := x
    simp at e ⊢
    exact e
   subst hyx
   exact hK _ _ hO.drop1 (λ _ => ⟨hlt, by simpa using hy'⟩) (λ h => by omega)
  ·refine Rng.go (by omega) ⟨⟨n + 1, by omega, rfl, ?_, hO⟩, by simp only; omega⟩
   rw [List.take_add_one, hy', Option.toList_some, List.mem_append, List.mem_singleton]
   rintro (h1 | rfl)
   ·exact hno h1
   ·simp at e
 ·have hnl : n = d.length := by omega
  subst hnl
  rw [List.take_length] at hno
  unfold S22_k1
  exact hK _ _ hO.drop1 (λ h => by omega) (λ _ => ⟨rfl, hno⟩)
end Go.Sl
set_option maxRecDepth 100000
namespace Go.Proofs
open Go.Shelf
def Tryz.laysSort_ren : Go.Shelf.Ren := ⟨λ | 189 => 59 | 125 => 83 | 257 => 82 | 128 => 123 | 129 => 124 | 294 => 114 | 295 => 115 | 296 => 116 | 297 => 117 | 298 => 118 | 299 => 119 | 216 => 120 | 300 => 121 | 301 => 122 | 328 => 148 | 329 => 149 | 330 => 150 | 331 => 151 | 332 => 152 | 215 => 153 | 343 => 179 | n => n, λ | 28 => 23 | 3 => 3 | 46 => 167 | 0 => 0 | 51 => 239 | 53 => 241 | 4 => 4 | 183 => 233 | 182 => 232 | 131 => 215 | 5 => 5 | 9 => 9 | 218 => 280 | 222 => 284 | 228 => 315 | 229 => 52 | n => n, λ | n => n⟩
theorem Tryz.laysSort : Go.Proofs.Lays.n189 Tryz.prog Tryz.laysSort_ren where
 mixed := by kernel_rfl
 f125 := Tryz.func83.trans (congrArg some (by kernel_rfl))
 f128 := Tryz.func123.trans (congrArg some (by kernel_rfl))
 f129 := Tryz.func124.trans (congrArg some (by kernel_rfl))
 f189 := Tryz.func59.trans (congrArg some (by kernel_rfl))
 f215 := Tryz.func153.trans (congrArg some (by kernel_rfl))
 f216 := Tryz.func120.trans (congrArg some (by kernel_rfl))
 f257 := Tryz.func82.trans (congrArg some (by kernel_rfl))
 f294 := Tryz.func114.trans (congrArg some (by kernel_rfl))
 f295 := Tryz.func115.trans (congrArg some (by kernel_rfl))
 f296 := Tryz.func116.trans (congrArg some (by kernel_rfl))
 f297 := Tryz.func117.trans (congrArg some (by kernel_rfl))
 f298 := Tryz.func118.trans (congrArg some (by kernel_rfl))
 f299 := Tryz.func119.trans (congrArg some (by kernel_rfl))
 f300 := Tryz.func121.trans (congrArg some (by kernel_rfl))
 f301 := Tryz.func122.trans (congrArg some (by kernel_rfl))
 f328 := Tryz.func148.trans (congrArg some (by kernel_rfl))
 f329 := Tryz.func149.trans (congrArg some (by kernel_rfl))
 f330 := Tryz.func150.trans (congrArg some (by kernel_rfl))
 f331 := Tryz.func151.trans (congrArg some (by kernel_rfl))
 f332 := Tryz.func152.trans (congrArg some (by kernel_rfl))
 f343 := Tryz.func179.trans (congrArg some (by kernel_rfl))
 t0 := Tryz.underlying0
 a0 := Tryz.isAgg0
 z0 := Tryz.sizeOf0
 v0 := Tryz.zeroValue0
 t3 := Tryz.underlying3
 a3 := Tryz.isAgg3
 z3 := Tryz.sizeOf3
 v3 := Tryz.zeroValue3
 t4 := Tryz.underlying4
 a4 := Tryz.isAgg4
 z4 := Tryz.sizeOf4
 v4 := Tryz.zeroValue4
 t5 := Tryz.underlying5
 a5 := Tryz.isAgg5
 z5 := Tryz.sizeOf5
 v5 := Tryz.zeroValue5
 t9 := Tryz.underlying9
 a9 := Tryz.isAgg9
 z9 := Tryz.sizeOf9
 v9 := Tryz.zeroValue9
 t28 := Tryz.underlying23
 a28 := Tryz.isAgg23
 z28 := Tryz.sizeOf23
 v28 := Tryz.zeroValue23
 t46 := Tryz.underlying167
 a46 := Tryz.isAgg167
 z46 := Tryz.sizeOf167
 v46 := Tryz.zeroValue167
 t51 := Tryz.underlying239
 a51 := Tryz.isAgg239
 z51 := Tryz.sizeOf239
 v51 := Tryz.zeroValue239
 t53 := Tryz.underlying241
 a53 := Tryz.isAgg241
 z53 := Tryz.sizeOf241
 v53 := Tryz.zeroValue241
 t131 := Tryz.underlying215
 a131 := Tryz.isAgg215
 z131 := Tryz.sizeOf215
 v131 := Tryz.zeroValue215
 t182 := Tryz.underlying232
 a182 := Tryz.isAgg232
 z182 := Tryz.sizeOf232
 v182 := Tryz.zeroValue232
 t183 := Tryz.underlying233
 a183 := Tryz.isAgg233
 z183 := Tryz.sizeOf233
 v183 := Tryz.zeroValue233
 t218 := Tryz.underlying280
 a218 := Tryz.isAgg280
 z218 := Tryz.sizeOf280
 v218 := Tryz.zeroValue280
 t222 := Tryz.underlying284
 a222 := Tryz.isAgg284
 z222 := Tryz.sizeOf284
 v222 := Tryz.zeroValue284
 t228 := Tryz.underlying315
 a228 := Tryz.isAgg315
 z228 := Tryz.sizeOf315
 v228 := Tryz.zeroValue315
 t229 := Tryz.underlying52
 a229 := Tryz.isAgg52
 z229 := Tryz.sizeOf52
 v229 := Tryz.zeroValue52
theorem sort_int (blk off cap : Nat) (zs : List Int) (w : World) (hH : Sort.Holds (Value.int .i64) w blk off zs.toArray) (hblk : blk < w.heap.size) (hsz : zs.length < 4611686018427387904) :
  Calls Tryz.prog 59 #[.slice (some ⟨blk, off, none⟩) zs.length cap] w λ e w' =>
   e = .returned (.tuple #[]) /\ ∃ n os, w' = Sort.grow (Sort.putRow (Value.int .i64) (Sort.ahead w n) blk off (zs.mergeSort λ x y => decide (x <= y)).toArray) os := Any.slices_Sort_int Tryz.laysSort blk off cap zs w hH hblk hsz
theorem sort_none (p : Option Addr) (cap : Nat) (w : World) :
  Calls Tryz.prog 59 #[.slice p 0 cap] w λ e w' => e = .returned (.tuple #[]) /\ w' = w := Any.slices_Sort_int_none Tryz.laysSort p cap w
end Go.Proofs
set_option maxRecDepth 100000
namespace Go.Sl
open Go Go.Proofs
variable {G h : Heap} {L R : List Heap} {K : Value -> Heap -> Prop} {Kp : PK}
theorem eI_F (l : List Int) : eI.F l = l.map (Value.int .i64) := by
 unfold En.F eI
 induction l with
 | nil => rfl
 | cons x l ih => simp only [List.flatMap_cons, List.map_cons]; rw [ih]; rfl
theorem put_blk (z : Nat × Nat) (xs ys js : List Int) (hl : ys.length = xs.length) : Sort.onCells (Sort.putCells (Value.int .i64) 0 ys.toArray) (blk eI z (xs ++ js)) = blk eI z (ys ++ js) := by
 show Obj.cells (Sort.putCells (Value.int .i64) 0 ys.toArray (eI.F (xs ++ js)).toArray) eI.t z = Obj.cells (eI.F (ys ++ js)).toArray eI.t z
 refine congrArg (λ a => Obj.cells a eI.t z) ?_
 apply Array.ext_getElem?
 intro i
 unfold Sort.putCells
 rw [Array.getElem?_mapIdx, List.getElem?_toArray, List.getElem?_toArray, eI_F, eI_F, List.getElem?_map, List.getElem?_map]
 by_cases hi : i < ys.length
 ·rw [List.getElem?_append_left (by omega), List.getElem?_append_left hi, List.getElem?_eq_getElem (by omega), List.getElem?_eq_getElem hi]
  simp [hi]
 ·rw [List.getElem?_append_right (by omega), List.getElem?_append_right (by omega), hl]
  cases js[i - xs.length]? with
  | none => rfl
  | some x => simp [hi]
theorem slSort {q : Option Addr} {l k : Nat} {zs : List Int} {c : Heap} (hO : Own G h (c :: L)) (hs : Sli eI q l k zs c) (hl : zs.length <= 100000)
  (hK : ∀ h' c', Sli eI q l k (zs.mergeSort λ x y => decide (x <= y)) c' -> Own G h' (c' :: L) -> K (.tuple #[]) h') : CallF Tryz.prog G 59 #[.slice q l k] K Kp h := by
 refine callF_of Tryz.func59 rfl rfl λ w F f => ?_
 cases hs with
 | no =>
  refine Calls.mono (sort_none none 0 w) ?_
  rintro e w' ⟨rfl, rfl⟩
  exact ⟨h, hK _ emp (by rw [List.mergeSort_nil]; exact .no) hO, f⟩
 | bk js z hz =>
  rename_i b
  have hb : h b = some (blk eI z (zs ++ js)) := hO.sub _ (by simp) b _ single_self
  have hwb := f.own b _ hb
  have hlt : b < w.heap.size := by
   have := Array.getElem?_eq_some_iff.1 hwb
   exact this.1
  have hH : Sort.Holds (Value.int .i64) w b 0 zs.toArray := by
   intro j hj
   have hj' : j < zs.length := by simpa using hj
   refine ⟨?_, ?_⟩
   ·unfold World.cell?
    simp only [hwb, blk]
    rw [eI_F]
    simp [hj', List.getElem?_append_left]
   ·unfold World.frozen?
    simp only [hwb, blk]
    have := hz (0 + j) (by
     show 0 + j < (zs ++ js).length * 1
     rw [List.length_append]; omega)
    simpa using this
  refine Calls.mono (sort_int b 0 _ zs w hH hlt (by omega)) ?_
  rintro e w' ⟨rfl, n, os, rfl⟩
  obtain ⟨ys, hys⟩ : ∃ ys, ys = zs.mergeSort λ x y => decide (x <= y) := ⟨_, rfl⟩
  rw [<- hys] at hK ⊢
  have hyl : ys.length = zs.length := by rw [hys, List.length_mergeSort]
  have hh : ∀ i, i < w.heap.size -> (Sort.grow (Sort.putRow (Value.int .i64) (Sort.ahead w n) b 0 ys.toArray) os).heap[i]? = if b = i then some (blk eI z (ys ++ js)) else w.heap[i]? := by
   intro i hi
   unfold Sort.grow Sort.putRow Sort.mapBlock Sort.ahead
   simp only
   rw [Array.getElem?_append_left (by simpa using hi), Array.getElem?_modify]
   by_cases e : b = i
   ·subst e
    rw [if_pos rfl, if_pos rfl, hwb, Option.map_some, put_blk z zs ys js hyl]
   ·rw [if_neg e, if_neg e]
  have hold : ∀ i o, w.heap[i]? = some o -> b ≠ i -> (Sort.grow (Sort.putRow (Value.int .i64) (Sort.ahead w n) b 0 ys.toArray) os).heap[i]? = some o := λ i o hi e => by
   rw [hh i (Array.getElem?_eq_some_iff.1 hi).1, if_neg e]; exact hi
  refine ⟨hupd h b (blk eI z (ys ++ js)), hK _ (single b (blk eI z (ys ++ js))) ?_ (hO.set (Find.here b (blk eI z (zs ++ js)) L) _), ?_⟩
  ·have := Sli.bk (e := eI) (b := b) (xs := ys) js z (by rw [List.length_append] at hz ⊢; rw [hyl]; exact hz)
   rw [hyl] at this
   exact this
  ·refine ⟨λ i => ?_, λ i o ho => ?_, λ i o ho => ?_, λ i o ho => ?_, f.same⟩
   ·rcases f.apart i with e | e
    ·left
     unfold hupd
     rw [if_neg]
     ·exact e
     ·rintro rfl; rw [hb] at e; cases e
    ·exact .inr e
   ·unfold hupd at ho
    split at ho
    ·rename_i e; subst e; cases ho; rw [hh _ hlt, if_pos rfl]
    ·rename_i e; exact hold i o (f.own i o ho) (λ e2 => e e2.symm)
   ·refine hold i o (f.rest i o ho) ?_
    rintro rfl
    rcases f.apart b with e | e
    ·rw [hb] at e; cases e
    ·rw [ho] at e; cases e
   ·obtain ⟨h1, h2⟩ := f.glob i o ho
    have hne : b ≠ i := by rintro rfl; rw [hb] at h2; cases h2
    exact ⟨hold i o h1 hne, by unfold hupd; rw [if_neg (λ e => hne e.symm)]; exact h2⟩
end Go.Sl
namespace Go.Sl
open Go Go.Proofs
set_option maxRecDepth 100000
variable {G h : Heap} {K : Value -> Heap -> Prop} {Kp : PK}
def S60 (G : Heap) (K : Value -> Heap -> Prop) (Kp : PK) (v1 : Int) (v2 : Int) (v3 : Int) (v4 : Addr) (h : Heap) : Prop :=
 newK G (.cells #[(.int .u8 v1), (.int .i64 v2), (.int .i64 v3)] 63) (λ v5 h => (LdM G h v4 λ v6 => LdI G h .u8 ⟨v5, 0, none⟩ λ v7 => LdI G h .i64 ⟨v5, 1, none⟩ λ v8 => LdI G h .i64 ⟨v5, 2, none⟩ λ v9 => slV Tryz.prog G (Instr.lookup 92 (.map v6) (.agg #[(.int .u8 v7), (.int .i64 v8), (.int .i64 v9)]) false) (λ v11 h => ∃ v10, v11 = (.int .i64 v10) /\ (K (.bool (v10 == 0)) h)) Kp h)) h
noncomputable def E60 : TE := mkE [R3, R63, R92] false (.any)
theorem T60 : TOk Tryz.prog E60 := mkE_ok (AllOk.mem (⟨R3_ok, R63_ok, R92_ok, trivial⟩ : AllOk Tryz.prog [R3, R63, R92]))
def ann60 : Nat -> LAnn := λ _ => ⟨[], []⟩
theorem vc60 {v1 : Int} {v2 : Int} {v3 : Int} {v4 : Addr} :
  S60 G K Kp v1 v2 v3 v4 h = vcC E60 Tryz.prog G 8 ann60 Kp (bodyOf Tryz.f60) (retQ E60 G Tryz.f60.results.toList K) (frmA (#[(.agg #[(.int .u8 v1), (.int .i64 v2), (.int .i64 v3)]), (.pointer (some v4))] : Array Value).toList 0) h := by kernel_rfl
theorem b60 : bOk Tryz.prog 60 Tryz.f60 8 ann60 = true := by kernel_rfl
theorem S60_ok {v1 : Int} {v2 : Int} {v3 : Int} {v4 : Addr} (hh : S60 G K Kp v1 v2 v3 v4 h) :
  CallF Tryz.prog G 60 #[(.agg #[(.int .u8 v1), (.int .i64 v2), (.int .i64 v3)]), (.pointer (some v4))] K Kp h :=
 callF_b T60 hmix Tryz.func60 Tryz.ntmps60 b60 (by kernel_rfl) (Eq.mp vc60 hh)
end Go.Sl
set_option maxRecDepth 100000
namespace Go.Sl
open Go Go.Proofs
set_option maxRecDepth 100000
variable {G h : Heap} {K : Value -> Heap -> Prop} {Kp : PK}
def rfA : Nat -> Code -> Code
 | 0, .seq (.seq c _) _ => c
 | n + 1, .seq a c => .seq a (rfA n c)
 | _, c => c
def rfX : Nat -> Code -> Code
 | 0, .seq (.seq _ x) _ => x
 | n + 1, .seq _ c => rfX n c
 | _, c => c
def rfC : Nat -> Code -> Code
 | 0, .seq (.seq _ _) r => r
 | n + 1, .seq _ c => rfC n c
 | _, c => c
def rfOk : Nat -> Code -> Bool
 | 0, .seq (.seq _ _) _ => true
 | n + 1, .seq _ c => rfOk n c
 | _, _ => false
def rfF : Code -> Code
 | .block _ c => c
 | c => c
def rfR : Code -> Code
 | .rangeFunc _ _ a _ => a
 | c => c
def rfB : Code -> Code
 | .rangeFunc _ _ _ b => b
 | c => c
def midQ (ls rs : List Nat) (Kn K : Value -> Heap -> Prop) : Exit -> Frm -> Heap -> Prop
 | .normal, ρ, h => Kn (.tuple (ls.map ρ).toArray) h
 | .ret, ρ, h => K (.tuple (rs.map ρ).toArray) h
 | _, _, _ => False
def fputs : List (Nat × Value) -> Frm -> Frm
 | [], ρ => ρ
 | (t, v) :: l, ρ => fput (fputs l ρ) t v
noncomputable def R106 : TRow := { t := 106, d := descOf Tryz.prog 106, sz := 1, zv := Tryz.t106.zero, ty := .any, feq := none }
theorem R106_ok : RowOk Tryz.prog R106 := rowOk_plain (descOf_ok Tryz.underlying106) (info_of Tryz.types_size (by kernel_rfl) Tryz.type106) rfl (.inr rfl) rfl
noncomputable def R109 : TRow := { t := 109, d := descOf Tryz.prog 109, sz := 1, zv := Tryz.t109.zero, ty := .any, feq := none }
theorem R109_ok : RowOk Tryz.prog R109 := rowOk_plain (descOf_ok Tryz.underlying109) (info_of Tryz.types_size (by kernel_rfl) Tryz.type109) rfl (.inr rfl) rfl
def S9026_k1 (G : Heap) (K : Value -> Heap -> Prop) (Kp : PK) (v9 : Nat) (v11 : Option Addr) (v12 : Nat) (v13 : Nat) (v1 : Option Addr) (v4 : Value -> Heap -> Prop) (v16 : Bool) (h : Heap) : Prop :=
 If v16 ((K (.tuple #[(.slice none 0 0), (.int .i64 180)]) h)) ((newK G (.cells #[(.slice none 0 0)] 37) (λ v17 h => (LdSl G h ⟨v9, 0, none⟩ λ v18 v19 v20 => CallF Tryz.prog G 41 #[(.slice v11 v12 v13)] (λ v28 h => ∃ v21, v28 = v21 /\ hcell (rd G h) ⟨v9, 0, none⟩ = some (.slice v18 v19 v20) /\ CallF Tryz.prog G 40 #[(.pointer v1), (.slice v18 v19 v20), v21] (λ v27 h => ∃ v22 v23 v24, v27 = (.slice v22 v23 v24) /\ CallF Tryz.prog G 39 #[(.slice v22 v23 v24)] (λ v26 h => ∃ v25, v26 = v25 /\ v4 (.tuple #[(.pointer v1), (.pointer (some ⟨v9, 0, none⟩)), (.slice v11 v12 v13), (.pointer (some ⟨v17, 0, none⟩)), v25]) h) Kp h) Kp h) Kp h)) h))
def S9026 (G : Heap) (K : Value -> Heap -> Prop) (Kp : PK) (v1 : Option Addr) (v2 : Int) (v3 : Int) (v4 : Value -> Heap -> Prop) (h : Heap) : Prop :=
 (CallF Tryz.prog G 34 #[(.pointer v1), (.int .i64 v2)] (λ v10 h => ∃ v5 v6 v7 v8, v10 = (.tuple #[(.slice v5 v6 v7), (.int .i64 v8)]) /\ newK G (.cells #[(.slice none 0 0)] 45) (λ v9 h => st1 ⟨v9, 0, none⟩ (.slice v5 v6 v7) (λ h => (CallF Tryz.prog G 34 #[(.pointer v1), (.int .i64 v3)] (λ v15 h => ∃ v11 v12 v13 v14, v15 = (.tuple #[(.slice v11 v12 v13), (.int .i64 v14)]) /\ (If (v8 != 0) ((S9026_k1 G K Kp v9 v11 v12 v13 v1 v4 true h)) ((S9026_k1 G K Kp v9 v11 v12 v13 v1 v4 (v14 != 0) h)))) Kp h)) h) h) Kp h)
noncomputable def E9026 : TE := mkE [R23, R37, R40, R45, R95, R106, R109] false (.any)
theorem T9026 : TOk Tryz.prog E9026 := mkE_ok (AllOk.mem (⟨R23_ok, R37_ok, R40_ok, R45_ok, R95_ok, R106_ok, R109_ok, trivial⟩ : AllOk Tryz.prog [R23, R37, R40, R45, R95, R106, R109]))
def ann9026 : Nat -> LAnn := λ _ => ⟨[], []⟩
theorem vc9026 {v1 : Option Addr} {v2 : Int} {v3 : Int} {v4 : Value -> Heap -> Prop} :
  S9026 G K Kp v1 v2 v3 v4 h = vcC E9026 Tryz.prog G 90 ann9026 Kp (rfA 5 (bodyOf Tryz.f26)) (midQ [0, 8, 10, 12, 40] [6, 7] v4 K) (frmA (#[(.pointer v1), (.int .i64 v2), (.int .i64 v3)] : Array Value).toList 0) h := by kernel_rfl
theorem b9026 : (wIn (rangeL 90) (rfA 5 (bodyOf Tryz.f26)) && annOk ann9026 90 (rfA 5 (bodyOf Tryz.f26))) = true := by kernel_rfl
def S9126 (G : Heap) (K : Value -> Heap -> Prop) (Kp : PK) (v1 : Addr) (v2 : Addr) (v3 : Int) (h : Heap) : Prop :=
 LdSl G h v2 λ v4 v5 v6 => LdSl G h v1 λ v7 v8 v9 => Rq ((0 : Int) <= v3 /\ v3 < ((v8 : Nat) : Int)) (NN v7 λ v10 => LdI G h .i64 (ad (Addr.add v10 (Int.toNat v3 * 3)) 1) λ v11 => LdSl G h v1 λ v12 v13 v14 => Rq ((0 : Int) <= v3 /\ v3 < ((v13 : Nat) : Int)) (NN v12 λ v15 => LdI G h .i64 (ad (Addr.add v15 (Int.toNat v3 * 3)) 2) λ v16 => newK G (.cells #[(.int .i64 2), (.int .i64 v3), (.int .u8 0), (.int .i64 v11), (.int .i64 v16)] 84) (λ v17 h => hcell (rd G h) v2 = some (.slice v4 v5 v6) /\ slV Tryz.prog G (Builtin.append_ #[37, 37] 37 #[(.slice v4 v5 v6), (.slice (some ⟨v17, 0, none⟩) 1 1)]) (λ v21 h => ∃ v18 v19 v20, v21 = (.slice v18 v19 v20) /\ hcell (rd G h) v1 = some (.slice v12 v13 v14) /\ hcell (rd G h) v1 = some (.slice v7 v8 v9) /\ st1 v2 (.slice v18 v19 v20) (λ h => K (.tuple #[]) h) h) Kp h) h))
noncomputable def E9126 : TE := mkE [R3, R5, R37, R45, R63, R84] false (.any)
theorem T9126 : TOk Tryz.prog E9126 := mkE_ok (AllOk.mem (⟨R3_ok, R5_ok, R37_ok, R45_ok, R63_ok, R84_ok, trivial⟩ : AllOk Tryz.prog [R3, R5, R37, R45, R63, R84]))
def ann9126 : Nat -> LAnn := λ _ => ⟨[], []⟩
theorem vc9126 {v1 : Addr} {v2 : Addr} {v3 : Int} {ρ : Frm} :
  S9126 G K Kp v1 v2 v3 h = vcC E9126 Tryz.prog G 90 ann9126 Kp (rfF (rfB (rfF (rfX 5 (bodyOf Tryz.f26))))) (midQ [] [] K (λ _ _ => False)) (fputs [(8, (.pointer (some v1))), (12, (.pointer (some v2))), (14, (.int .i64 v3))] ρ) h := by kernel_rfl
def S9226_k1 (G : Heap) (K : Value -> Heap -> Prop) (Kp : PK) (v6 : Addr)  (h : Heap) : Prop :=
 LdSl G h v6 λ v35 v36 v37 => (K (.tuple #[(.slice v35 v36 v37), (.int .i64 0)]) h)
def S9226_l10 (G : Heap) (K : Value -> Heap -> Prop) (Kp : PK) (v12 : Nat) (v11 : Option Addr) (v6 : Addr) (v4 : Nat) (v3 : Option Addr) (_ : Nat -> Value) (v18 : List Value) (v17 : List Value -> Heap -> Prop) (h : Heap) : Prop :=
 ∃ v16, v18 = [(.int .i64 v16)] /\ (If (decide (v16 < ((v12 : Nat) : Int))) ((Rq ((0 : Int) <= v16 /\ v16 < ((v12 : Nat) : Int)) (NN v11 λ v19 => LdI G h .i64 (Addr.add v19 (Int.toNat v16 * 1)) λ v20 => (LdSl G h v6 λ v21 v22 v23 => Rq ((0 : Int) <= v20 /\ v20 < ((v4 : Nat) : Int)) (NN v3 λ v24 => LdI G h .u8 (Addr.add v24 (Int.toNat v20 * 3)) λ v25 => Rq ((0 : Int) <= v20 /\ v20 < ((v4 : Nat) : Int)) (NN v3 λ v26 => LdI G h .i64 (ad (Addr.add v26 (Int.toNat v20 * 3)) 1) λ v27 => Rq ((0 : Int) <= v20 /\ v20 < ((v4 : Nat) : Int)) (NN v3 λ v28 => LdI G h .i64 (ad (Addr.add v28 (Int.toNat v20 * 3)) 2) λ v29 => newK G (.cells #[(.int .i64 1), (.int .i64 v20), (.int .u8 v25), (.int .i64 v27), (.int .i64 v29)] 84) (λ v30 h => hcell (rd G h) v6 = some (.slice v21 v22 v23) /\ slV Tryz.prog G (Builtin.append_ #[37, 37] 37 #[(.slice v21 v22 v23), (.slice (some ⟨v30, 0, none⟩) 1 1)]) (λ v34 h => ∃ v31 v32 v33, v34 = (.slice v31 v32 v33) /\ st1 v6 (.slice v31 v32 v33) (λ h => (Rng (v16 + 1) (v17 [(.int .i64 (v16 + 1))] h))) h) Kp h) h))))))) ((S9226_k1 G K Kp v6 h)))
def S9226 (G : Heap) (K : Value -> Heap -> Prop) (Kp : PK) (v1 : Option Addr) (v2 : Addr) (v3 : Option Addr) (v4 : Nat) (v5 : Nat) (v6 : Addr) (h : Heap) : Prop :=
 LdSl G h v2 λ v7 v8 v9 => CallF Tryz.prog G 41 #[(.slice v7 v8 v9)] (λ v15 h => ∃ v10, v15 = v10 /\ CallF Tryz.prog G 40 #[(.pointer v1), (.slice v3 v4 v5), v10] (λ v14 h => ∃ v11 v12 v13, v14 = (.slice v11 v12 v13) /\ (LoopS [(.int .i64 0)] h (S9226_l10 G K Kp v12 v11 v6 v4 v3))) Kp h) Kp h
noncomputable def E9226 : TE := mkE [R3, R5, R23, R37, R45, R63, R84, R109] false (.any)
theorem T9226 : TOk Tryz.prog E9226 := mkE_ok (AllOk.mem (⟨R3_ok, R5_ok, R23_ok, R37_ok, R45_ok, R63_ok, R84_ok, R109_ok, trivial⟩ : AllOk Tryz.prog [R3, R5, R23, R37, R45, R63, R84, R109]))
def ann9226 : Nat -> LAnn := λ k => (bif Nat.beq k 10 then ⟨[(64, .int .i64)], [16, 65, 66, 67, 68, 69, 70, 71, 72, 73, 74, 75, 76, 77, 78, 79, 80, 81, 82, 83, 84, 85, 86, 87, 88]⟩ else ⟨[], []⟩)
theorem vc9226 {v1 : Option Addr} {v2 : Addr} {v3 : Option Addr} {v4 : Nat} {v5 : Nat} {v6 : Addr} {ρ : Frm} :
  S9226 G K Kp v1 v2 v3 v4 v5 v6 h = vcC E9226 Tryz.prog G 90 ann9226 Kp (rfC 5 (bodyOf Tryz.f26)) (midQ [6, 7] [6, 7] K K) (fputs [(0, (.pointer v1)), (8, (.pointer (some v2))), (10, (.slice v3 v4 v5)), (12, (.pointer (some v6)))] ρ) h := by kernel_rfl
theorem b9226 : (wIn (rangeL 90) (rfC 5 (bodyOf Tryz.f26)) && annOk ann9226 90 (rfC 5 (bodyOf Tryz.f26))) = true := by kernel_rfl
theorem rfOk26 : rfOk 5 (bodyOf Tryz.f26) = true := by kernel_rfl
end Go.Sl
namespace Go.Proofs
open Go.RowKit Go.Shelf
attribute [local go_sem] Oper.semAt_some
set_option maxRecDepth 100000
set_option maxHeartbeats 2000000 in
theorem back1 (n l Bs b off len cap : Nat) (zs : List Int) (hlen : len <= 1000000) (J : Nat -> World -> Prop)
  (hc : ∀ k W, J k W -> W.cell? ⟨Bs, 0, none⟩ = some (.slice (some ⟨b, off, none⟩) len cap) /\ ∀ j, j < len -> W.cell? ⟨b, off + j, none⟩ = some (.int .i64 (zs[j]?.getD 0)))
  (hY : ∀ k W, J k W -> k < len -> YieldAt Fence.wide (n - 1) Tryz.prog l #[.int .i64 ((len - 1 - k : Nat) : Int), .int .i64 (zs[len - 1 - k]?.getD 0)] W λ e W' => e = .returned (.bool true) /\ J (k + 1) W')
  (W : World) (h0 : J 0 W) :
  CallsIn Fence.wide n Tryz.prog 57 #[.func (.yield l) #[] #[], .pointer (some ⟨Bs, 0, none⟩)] W λ e W' => (∃ v, e = .returned v) /\ J len W' := by
 have hro : Fence.wide.round = none := rfl
 obtain ⟨hB0, hC0⟩ := hc 0 W h0
 refine callsIn_of_wp Tryz.func57 rfl trivial ?_ hro
 simp only [Tryz.ntmps57, List.size_toArray, List.length_cons, List.length_nil, Nat.reduceAdd, Nat.reduceSub, Array.replicate_succ, Array.replicate_zero, List.push_toArray, List.append_toArray, List.nil_append, List.cons_append]
 gi_wp2
 gi_loopw [3] (λ i wr => ∃ k : Nat, k <= len /\ i = .int .i64 ((k : Int) - 1) /\ J (len - k) wr) (λ i _ => (intOf i + 1).toNat)
 case atStart => exact ⟨len, Nat.le_refl _, by simp, by rw [Nat.sub_self]; exact h0⟩
 case round =>
  obtain ⟨k, hk, rfl, hJs⟩ := hrel
  cases k with
  | zero =>
   rw [show ((0 : Nat) : Int) - 1 = -1 from rfl]
   gi_wp2
   go_end0
   exact ⟨⟨_, rfl⟩, hJs⟩
  | succ j =>
   rw [show ((j + 1 : Nat) : Int) - 1 = (j : Int) by omega]
   obtain ⟨hB1, hC1⟩ := hc _ wr hJs
   have hC2 := hC1 j (by omega)
   obtain ⟨fn, tmps, assign, body, hy, hR⟩ := hY _ wr hJs (by omega)
   rw [show len - 1 - (len - (j + 1)) = j by omega] at hy
   gi_wp2
   refine ⟨λ h => (by cases h), hR.mono ?_⟩
   rintro e W3 ⟨rfl, hJ3⟩
   gi_wp2
   go_roundw
   case rel => exact ⟨j, by omega, by simp, by rw [show len - j = len - (j + 1) + 1 by omega]; exact hJ3⟩
   case measure => simp [intOf] <;> omega
set_option maxHeartbeats 2000000 in
theorem back0 (n l Bs : Nat) (J : Nat -> World -> Prop) (W : World) (hB0 : W.cell? ⟨Bs, 0, none⟩ = some (.slice none 0 0)) (h0 : J 0 W) :
  CallsIn Fence.wide n Tryz.prog 57 #[.func (.yield l) #[] #[], .pointer (some ⟨Bs, 0, none⟩)] W λ e W' => (∃ v, e = .returned v) /\ J 0 W' := by
 have hro : Fence.wide.round = none := rfl
 refine callsIn_of_wp Tryz.func57 rfl trivial ?_ hro
 simp only [Tryz.ntmps57, List.size_toArray, List.length_cons, List.length_nil, Nat.reduceAdd, Nat.reduceSub, Array.replicate_succ, Array.replicate_zero, List.push_toArray, List.append_toArray, List.nil_append, List.cons_append]
 gi_wp2
 gi_loopw [3] (λ i wr => i = .int .i64 (-1) /\ J 0 wr) (λ _ _ => 0)
 case atStart => exact ⟨rfl, h0⟩
 case round =>
  obtain ⟨rfl, hJs⟩ := hrel
  gi_wp2
  go_end0
  exact ⟨⟨_, rfl⟩, hJs⟩
end Go.Proofs
set_option maxRecDepth 100000
namespace Go.Sl
open Go Go.Proofs
variable {G h : Heap} {L R : List Heap} {K : Value -> Heap -> Prop} {Kp : PK}
theorem revPlace {q : Option Addr} {l c : Nat} {d : List Elm} {x : Elm} (hO : Own G h L) (hr : Rdl L eElm q l d) (hsm : l <= 100000)
  (hK : ∀ h' (n : Int), Own G h' L -> (0 <= n -> n < l /\ d[n.toNat]? = some x) -> (n < 0 -> n = -1 /\ x ∉ d) -> K (.int .i64 n) h') :
  CallF Tryz.prog G 58 #[.slice q l c, .agg #[.int .u8 x.ch, .int .i64 x.client, .int .i64 x.seq]] K Kp h := by
 refine S58_ok ?_
 unfold S58
 have hl := hr.len hO
 refine newK.go hO ?_
 clear hO; intro r7 h hO
 refine LoopS.go (λ vs h' => ∃ (n : Nat), n <= l /\ vs = [.int .i64 n] /\ x ∉ d.take n /\ Own G h' (single r7 (.cells #[.int .u8 x.ch, .int .i64 x.client, .int .i64 x.seq] 63 (0, 0)) :: L)) (λ vs _ => match vs with | [.int _ n] => (l - n).toNat | _ => 0) ⟨0, by omega, rfl, by simp, hO⟩ ?_
 clear hO
 rintro jv vs h ⟨n, hn, rfl, hno, hO⟩
 unfold S58_l2
 refine ⟨_, rfl, If.dec (λ hlt => ?_) (λ hlt => ?_)⟩
 ·refine Rq.go ⟨by omega, hlt⟩ ?_
  obtain ⟨y, hy, hn'⟩ := (hr.cons _).at eElm_ok hO (i := (n : Int)) (by omega) hlt
  have hy' : d[n]? = some y := by simpa using hy
  refine hn' _ λ a _ hc => ?_
  refine LdI.i (hc 0 _ rfl) (LdI.i (hc 1 _ rfl) (LdI.i (hc 2 _ rfl) ?_))
  refine newK.go hO ?_
  clear hO hc; intro r15 h hO
  (repeat (with_reducible first | refine NN.go ?_ | refine LdI.g hO ?_ | refine LdSl.g hO ?_ | refine LdP.g hO ?_ | refine LdM.g hO ?_ | refine LdB.g hO ?_ | refine cell_g hO ?_ | refine Rq.go (by omega) ?_ | refine Rng.go (by omega) ?_ | (refine st1.g hO ?_; clear hO; intro h hO; dsimp only [ad, List.set] at hO)))
  refine If.mk (λ e => ?_) (λ e => ?_)
  ·have hyx : y = x := by
    obtain ⟨y1, y2, y3⟩ := y
    obtain ⟨x1, x2, x3⟩ := x
    simp at e ⊢
    exact e
   subst hyx
   exact hK _ _ hO.drop1.drop1 (λ _ => ⟨hlt, by simpa using hy'⟩) (λ h => by omega)
  ·refine Rng.go (by omega) ⟨⟨n + 1, by omega, rfl, ?_, hO.drop1⟩, by simp only; omega⟩
   rw [List.take_add_one, hy', Option.toList_some, List.mem_append, List.mem_singleton]
   rintro (h1 | rfl)
   ·exact hno h1
   ·simp at e
 ·have hnl : n = d.length := by omega
  subst hnl
  rw [List.take_length] at hno
  unfold S58_k1
  exact hK _ _ hO.drop1 (λ h => by omega) (λ _ => ⟨rfl, hno⟩)
def LackV (d : List Elm) (v : Value) (c : Heap) : Prop :=
 ∃ r m es k, v = .func (.func 60) #[] #[.pointer (some ⟨r, 0, none⟩)] /\ WfE es k /\ (∀ x, (mget es x).getD 0 = (d.count x : Int)) /\
  JoinOf c [single r (.cells #[.map (some m)] 92 (0, 0)), single m (mpO eElk es k)]
theorem mmakeR_go {P : Program} {t : TypeId} {κ β : Type} [DecidableEq κ] {e : KV κ β} (T : MapT P t e) {n : Int} (hO : Own G h L) (hK : ∀ h' r, Own G h' (single r (mpO e [] 0) :: L) -> K (.map (some r)) h') : slV P G (Instr.makeMap t (some (.int .i64 n))) K Kp h := by
 unfold slV slN Instr.makeMap
 simp only [bind_assoc', pure_bind']
 refine sl_bindPr (pr_underlying T.ud) ?_
 simp only [asInt, asIntOf, bind_assoc', pure_bind']
 refine sl_new λ r h1 h2 => ?_
 exact hK _ _ (hO.new h1 h2 _)
theorem count_take {d : List Elm} {n : Nat} {y : Elm} (h : d[n]? = some y) (x : Elm) : ((d.take (n + 1)).count x : Int) = if x = y then ((d.take n).count x : Int) + 1 else ((d.take n).count x : Int) := by
 rw [List.take_add_one, h, Option.toList_some, List.count_append, List.count_singleton]
 by_cases e : x = y
 ·subst e; simp
 ·rw [if_neg e, if_neg (by simpa using λ e2 => e e2.symm)]; simp
theorem revLacks {q : Option Addr} {l c : Nat} {d : List Elm} (hO : Own G h L) (hr : Rdl L eElm q l d) (hsm : l <= 100000)
  (hK : ∀ h' v c, LackV d v c -> Own G h' (c :: L) -> K v h') :
  CallF Tryz.prog G 41 #[.slice q l c] K Kp h := by
 refine S41_ok ?_
 unfold S41
 have hl := hr.len hO
 refine mmakeR_go tElk hO ?_
 clear hO; intro h m hO
 refine ⟨_, rfl, ?_⟩
 refine newK.go hO ?_
 clear hO; intro r5 h hO
 refine st1.g hO ?_
 clear hO; intro h hO
 refine LoopS.go (λ vs h' => ∃ (n : Nat) (es : Ents Elm Int) (k : Nat), n <= l /\ vs = [.int .i64 n] /\ WfE es k /\ (∀ x, (mget es x).getD 0 = ((d.take n).count x : Int)) /\ Own G h' (single r5 (.cells #[.map (some m)] 92 (0, 0)) :: single m (mpO eElk es k) :: L)) (λ vs _ => match vs with | [.int _ n] => (l - n).toNat | _ => 0) ⟨0, [], 0, by omega, rfl, wfE_nil 0, λ x => by simp [mget, fnd], hO⟩ ?_
 clear hO
 rintro jv vs h ⟨n, es, k, hn, rfl, hwf, hm, hO⟩
 unfold S41_l3
 refine ⟨_, rfl, If.dec (λ hlt => ?_) (λ hlt => ?_)⟩
 ·refine Rq.go ⟨by omega, hlt⟩ ?_
  obtain ⟨y, hy, hn'⟩ := ((hr.cons _).cons _).at eElm_ok hO (i := (n : Int)) (by omega) hlt
  have hy' : d[n]? = some y := by simpa using hy
  refine hn' _ λ a _ hc => ?_
  refine LdI.i (hc 0 _ rfl) (LdI.i (hc 1 _ rfl) (LdI.i (hc 2 _ rfl) ?_))
  refine newK.go hO ?_
  clear hO hc; intro r14 h hO
  (repeat (with_reducible first | refine NN.go ?_ | refine LdI.g hO ?_ | refine LdSl.g hO ?_ | refine LdP.g hO ?_ | refine LdM.g hO ?_ | refine LdB.g hO ?_ | refine cell_g hO ?_ | refine Rq.go (by omega) ?_ | refine Rng.go (by omega) ?_ | (refine st1.g hO ?_; clear hO; intro h hO; dsimp only [ad, List.set] at hO)))
  have hcn : (mget es y).getD 0 <= n := by
   rw [hm]
   have := List.count_le_length (a := y) (l := d.take n)
   rw [List.length_take] at this; omega
  have hcn0 : 0 <= (mget es y).getD 0 := by rw [hm]; omega
  have last : ∀ {h' : Heap} {es' : Ents Elm Int} {k' s : Nat} {Q : Heap -> Prop}, MEnt es k y 0 es' k' s -> Own G h' (single r14 (.cells #[.int .u8 y.ch, .int .i64 y.client, .int .i64 y.seq] 63 (0, 0)) :: single r5 (.cells #[.map (some m)] 92 (0, 0)) :: single m (mpO eElk es' k') :: L) ->
    (∀ h' es' k', WfE es' k' -> (∀ x, (mget es' x).getD 0 = ((d.take (n + 1)).count x : Int)) -> Own G h' (single r5 (.cells #[.map (some m)] 92 (0, 0)) :: single m (mpO eElk es' k') :: L) -> Q h') ->
    slU Tryz.prog G (Instr.entryStore 92 (.map (some m)) (.int .i64 (s : Int)) (.int .i64 ((mget es y).getD 0 + 1))) (λ r h => r = (Value.tuple #[]) /\ Q h) Kp h' := by
   intro h' es' k' s Q hme hO hQ
   refine estore_go (e := eElk) hO hme.wf ((mget es y).getD 0 + 1 : Int) hme.at_ λ h hO hw => ⟨rfl, ?_⟩
   refine hQ _ _ _ hw (λ x => ?_) hO.drop1
   rw [mget_mput, count_take hy']
   by_cases e : x = y
   ·subst e; rw [if_pos rfl, if_pos rfl, hm]; rfl
   ·rw [if_neg e, if_neg e]
    exact (hme.eq x).trans (hm x)
  refine ⟨?_, ?_⟩
  ·refine look1_go tElk (hO.rd inferInstance) y ⟨_, rfl, Rng.go (by show _ /\ _ + 1 <= _; simp only [eElk]; omega) ?_⟩
   refine ment_go tElk hO hwf y λ h es' k' s hme hO => ⟨_, _, rfl, ?_⟩
   refine last hme hO λ h es2 k2 hw2 hm2 hO => ?_
   unfold S41_k1
   exact Rng.go (by omega) ⟨⟨n + 1, es2, k2, by omega, rfl, hw2, hm2, hO⟩, by simp only; omega⟩
  ·refine ment_go tElk hO hwf y λ h es' k' s hme hO => ⟨_, _, rfl, ?_⟩
   have he : (mget es' y).getD 0 = (mget es y).getD 0 := hme.eq y
   refine look1_go tElk (hO.rd inferInstance) y ⟨_, rfl, Rng.go (by show _ /\ _ + 1 <= _; simp only [eElk]; omega) ?_⟩
   have : (mget es' y).getD eElk.z = (mget es y).getD 0 := he
   rw [this]
   refine last hme hO λ h es2 k2 hw2 hm2 hO => ?_
   unfold S41_k1
   exact Rng.go (by omega) ⟨⟨n + 1, es2, k2, by omega, rfl, hw2, hm2, hO⟩, by simp only; omega⟩
 ·have hnl : n = d.length := by omega
  subst hnl
  rw [List.take_length] at hm
  unfold S41_k2
  obtain ⟨hj, hO⟩ := Own.closeJ (cs := [_, _]) hO
  exact hK _ _ _ ⟨r5, m, es, k, rfl, hwf, hm, hj⟩ hO
theorem lackCall {d : List Elm} {v : Value} {c : Heap} {x : Elm} (hO : Own G h L) [t : Take L c R] (hv : LackV d v c)
  (hK : ∀ h', Own G h' L -> K (.bool (decide (x ∉ d))) h') : CallV Tryz.prog G v [.agg #[.int .u8 x.ch, .int .i64 x.client, .int .i64 x.seq]] K Kp h := by
 obtain ⟨r, m, es, k, rfl, hwf, hm, hj⟩ := hv
 show CallF Tryz.prog G 60 #[.agg #[.int .u8 x.ch, .int .i64 x.client, .int .i64 x.seq], .pointer (some ⟨r, 0, none⟩)] K Kp h
 refine S60_ok ?_
 unfold S60
 refine newK.go hO ?_
 intro r5 h2 hO2
 have hO3 : Own G h2 (single r (.cells #[.map (some m)] 92 (0, 0)) :: single m (mpO eElk es k) :: (single r5 (.cells #[.int .u8 x.ch, .int .i64 x.client, .int .i64 x.seq] 63 (0, 0)) :: R)) := (hO2.perm ((List.Perm.swap _ _ _).trans (t.perm.cons _))).openJ hj
 refine LdM.go hO3 (by with_unfolding_all rfl) (LdI.g hO3 (LdI.g hO3 (LdI.g hO3 ?_)))
 refine look1_go tElk (hO3.rd inferInstance) x ⟨_, rfl, ?_⟩
 have hb : ((mget es x).getD eElk.z == 0) = decide (x ∉ d) := by
  show ((mget es x).getD 0 == 0) = _
  rw [hm, Bool.eq_iff_iff]
  simp [List.count_eq_zero]
 rw [hb]
 exact hK _ hO2.drop1
end Go.Sl
set_option maxRecDepth 100000
namespace Go.Sl
open Go Go.Proofs
variable {G h : Heap} {L R : List Heap} {K : Value -> Heap -> Prop} {Kp : PK}
def lk (d2 : List Elm) : Option Elm -> Bool
 | some x => decide (x ∉ d2)
 | none => false
def pkN (d d2 : List Elm) : List Nat := (List.range d.length).filter λ i => lk d2 d[i]?
def pk (d d2 : List Elm) : List Int := (pkN d d2).map λ (i : Nat) => (i : Int)
theorem mem_pkN {d d2 : List Elm} {i : Nat} : i ∈ pkN d d2 ↔ ∃ x, d[i]? = some x /\ x ∉ d2 := by
 unfold pkN
 rw [List.mem_filter, List.mem_range]
 constructor
 ·rintro ⟨h1, h2⟩
  rw [List.getElem?_eq_getElem h1] at h2 ⊢
  exact ⟨_, rfl, by simpa [lk] using h2⟩
 ·rintro ⟨x, h1, h2⟩
  refine ⟨(List.getElem?_eq_some_iff.1 h1).1, ?_⟩
  rw [h1]; simpa [lk] using h2
theorem pkN_lt {d d2 : List Elm} : (pkN d d2).Pairwise (· < ·) := List.pairwise_lt_range.filter _
theorem pk_lt {d d2 : List Elm} : (pk d d2).Pairwise (· < ·) := by
 unfold pk
 rw [List.pairwise_map]
 exact pkN_lt.imp λ h => by omega
theorem mem_pk {d d2 : List Elm} {i : Int} : i ∈ pk d d2 ↔ ∃ (n : Nat) (x : Elm), i = n /\ d[n]? = some x /\ x ∉ d2 := by
 unfold pk
 rw [List.mem_map]
 constructor
 ·rintro ⟨n, h1, rfl⟩
  obtain ⟨x, h2, h3⟩ := mem_pkN.1 h1
  exact ⟨n, x, rfl, h2, h3⟩
 ·rintro ⟨n, x, rfl, h2, h3⟩
  exact ⟨n, mem_pkN.2 ⟨x, h2, h3⟩, rfl⟩
theorem pk_len {d d2 : List Elm} : (pk d d2).length <= d.length := by
 unfold pk pkN
 rw [List.length_map]
 exact Nat.le_trans (List.length_filter_le _ _) (by simp)
theorem rising_ext : ∀ {a b : List Int}, a.Pairwise (· < ·) -> b.Pairwise (· < ·) -> (∀ i, i ∈ a ↔ i ∈ b) -> a = b
 | [], [], _, _, _ => rfl
 | [], y :: b, _, _, h => by have := (h y).2 (by simp); cases this
 | x :: a, [], _, _, h => by have := (h x).1 (by simp); cases this
 | x :: a, y :: b, ha, hb, h => by
  rw [List.pairwise_cons] at ha hb
  have hxy : x = y := by
   rcases List.mem_cons.1 ((h x).1 (by simp)) with e | e
   ·exact e
   ·rcases List.mem_cons.1 ((h y).2 (by simp)) with e2 | e2
    ·exact e2.symm
    ·have := hb.1 x e
     have := ha.1 y e2
     omega
  subst hxy
  rw [rising_ext ha.2 hb.2 λ i => ?_]
  constructor
  ·intro hi
   rcases List.mem_cons.1 ((h i).1 (by simp [hi])) with e | e
   ·have := ha.1 i hi; omega
   ·exact e
  ·intro hi
   rcases List.mem_cons.1 ((h i).2 (by simp [hi])) with e | e
   ·have := hb.1 i hi; omega
   ·exact e
theorem sort_rising {l m : List Int} (hn : l.Nodup) (hm : m.Pairwise (· < ·)) (h : ∀ i, i ∈ l ↔ i ∈ m) : (l.mergeSort λ x y => decide (x <= y)) = m := by
 have h1 : (l.mergeSort λ x y => decide (x <= y)).Nodup := ((List.mergeSort_perm l _).nodup_iff).2 hn
 have h2 := List.pairwise_mergeSort (le := λ (x y : Int) => decide (x <= y)) (λ a b c h1 h2 => by simp at h1 h2 ⊢; omega) (λ a b => by simp; omega) l
 refine rising_ext ?_ hm λ i => by rw [List.mem_mergeSort]; exact h i
 exact (h2.and h1).imp λ ⟨h1, h2⟩ => by
  simp at h1
  omega
def gq (d d2 : List Elm) (y : Elm × Int × Nat) : Option Int := if y.1 ∈ d /\ y.1 ∉ d2 then some (d.idxOf y.1 : Int) else none
theorem idx_at {d : List Elm} {x : Elm} (h : x ∈ d) : d[d.idxOf x]? = some x := by
 have h1 := List.idxOf_lt_length_iff.2 h
 rw [List.getElem?_eq_getElem h1, List.getElem_idxOf]
theorem idx_of {d : List Elm} (hn : d.Nodup) {x : Elm} {n : Nat} (h : d[n]? = some x) : d.idxOf x = n := by
 obtain ⟨h1, h2⟩ := List.getElem?_eq_some_iff.1 h
 have := hn.idxOf_getElem n h1
 rw [h2] at this; exact this
theorem gq_mem {d d2 : List Elm} {D : Ents Elm Int} {i : Int} : i ∈ D.filterMap (gq d d2) ↔ ∃ y ∈ D, y.1 ∈ d /\ y.1 ∉ d2 /\ i = (d.idxOf y.1 : Int) := by
 rw [List.mem_filterMap]
 constructor
 ·rintro ⟨y, h1, h2⟩
  unfold gq at h2
  split at h2
  ·rename_i h; cases h2; exact ⟨y, h1, h.1, h.2, rfl⟩
  ·cases h2
 ·rintro ⟨y, h1, h2, h3, rfl⟩
  exact ⟨y, h1, by unfold gq; rw [if_pos ⟨h2, h3⟩]⟩
theorem gq_nodup {d d2 : List Elm} : ∀ {D : Ents Elm Int}, (D.map (·.1)).Nodup -> (D.filterMap (gq d d2)).Nodup
 | [], _ => by simp
 | y :: D, h => by
  rw [List.map_cons, List.nodup_cons] at h
  have ih := gq_nodup (d := d) (d2 := d2) h.2
  rw [List.filterMap_cons]
  split
  ·exact ih
  ·rename_i i hi
   refine List.nodup_cons.2 ⟨λ hm => ?_, ih⟩
   unfold gq at hi
   split at hi
   ·rename_i hy
    cases hi
    obtain ⟨z, h1, h2, h3, h4⟩ := gq_mem.1 hm
    have e1 := idx_at hy.1
    have e2 := idx_at h2
    have e3 : d.idxOf y.1 = d.idxOf z.1 := by omega
    rw [e3, e2] at e1
    exact h.1 (List.mem_map.2 ⟨z, h1, by injection e1⟩)
   ·cases hi
theorem gq_len {d d2 : List Elm} {D : Ents Elm Int} (h : (D.map (·.1)).Nodup) : (D.filterMap (gq d d2)).length <= d.length := by
 refine Nat.le_trans (List.Nodup.length_le_of_subset (gq_nodup h) λ i hi => ?_) (pk_len (d := d) (d2 := d2))
 obtain ⟨y, h1, h2, h3, rfl⟩ := gq_mem.1 hi
 exact mem_pk.2 ⟨_, _, rfl, idx_at h2, h3⟩
theorem mget_mem {κ β : Type} [DecidableEq κ] {l : Ents κ β} {x : κ} (h : (mget l x).isSome) : ∃ y ∈ l, y.1 = x := by
 unfold mget at h
 rw [Option.isSome_map, fnd_isSome] at h
 obtain ⟨y, h1, h2⟩ := List.mem_map.1 (of_decide_eq_true h)
 exact ⟨y, h1, h2⟩
theorem nodup_map_inj {α β : Type} {f : α -> β} : ∀ {l : List α}, (l.map f).Nodup -> ∀ {a b : α}, a ∈ l -> b ∈ l -> f a = f b -> a = b
 | [], _, _, _, ha, _, _ => by cases ha
 | x :: l, h, a, b, ha, hb, e => by
  rw [List.map_cons, List.nodup_cons] at h
  rcases List.mem_cons.1 ha with ea | ha2 <;> rcases List.mem_cons.1 hb with eb | hb2
  ·rw [ea, eb]
  ·exact absurd (List.mem_map.2 ⟨b, hb2, by rw [<- e, ea]⟩) h.1
  ·exact absurd (List.mem_map.2 ⟨a, ha2, by rw [e, eb]⟩) h.1
  ·exact nodup_map_inj h.2 ha2 hb2 e
def seenN (r N : Nat) (h : Heap) : Nat := match h r with
 | some (.mapIter _ _ seen _) => N - seen.size
 | _ => 0
theorem revPicked {L R R2 : List Heap} {p q : Option Addr} {y : Bk} {ps : PS} {cp cv : Heap} {l k : Nat} {d d2 : List Elm} {v : Value} (hO : Own G h L) [t : Take L cp R] [t2 : Take R cv R2] (hq : PastP p y ps cp) (hr : Rdl R eElm q l d) (hv : LackV d2 v cv)
  (hsm : l <= 100000) (hnd : d.Nodup) (hbn : ∀ x ∈ d, (ps.born x).isSome)
  (hK : ∀ h' q' k' c', Sli eI q' (pk d d2).length k' (pk d d2) c' -> Own G h' (c' :: L) -> K (.slice q' (pk d d2).length k') h') :
  CallF Tryz.prog G 40 #[.pointer p, .slice q l k, v] K Kp h := by
 refine S40_ok ?_
 unfold S40
 obtain ⟨b, pb, dd, pls, n, cb, m1, k1, e1, m2, k2, e2, rfl, hb, hb1, hb2, hwf, hj⟩ := hq
 have hO0 : Own G h (single b (.cells #[.pointer pb, .map (some m1), .map (some m2)] 94 (0, 0)) :: cb :: single m1 (mpO eElk e1 k1) :: single m2 (mpO eElk e2 k2) :: R) := (hO.perm t.perm).openJ hj
 have hl := (hr.cons cp).len (hO.perm t.perm)
 clear hO
 refine NN.go (LdM.g hO0 ?_)
 refine mrange_go tElk hO0 ?_
 clear hO0; intro h r hO
 refine ⟨_, rfl, ?_⟩
 refine LoopS.go (λ vs h' => ∃ (D : Ents Elm Int) (q' : Option Addr) (k' : Nat) (ct : Heap), vs = [.slice q' (D.filterMap (gq d d2)).length k'] /\ Sli eI q' (D.filterMap (gq d d2)).length k' (D.filterMap (gq d d2)) ct /\ (∀ z ∈ D, z ∈ e1) /\ (D.map (·.1)).Nodup /\
   Own G h' (ct :: single r (itO m1 k1 (D.map (·.2.2))) :: single b (.cells #[.pointer pb, .map (some m1), .map (some m2)] 94 (0, 0)) :: cb :: single m1 (mpO eElk e1 k1) :: single m2 (mpO eElk e2 k2) :: R)) (λ _ h => seenN r (e1.length + 1) h)
  ⟨[], none, 0, emp, rfl, .no, by simp, by simp, hO.addEmp0⟩ ?_
 clear hO
 rintro jv vs h ⟨D, q', k', ct, rfl, hs, hD, hDn, hO⟩
 unfold S40_l3
 refine ⟨_, _, _, rfl, ?_⟩
 have hseen : seenN r (e1.length + 1) h = e1.length + 1 - D.length := by
  have : h r = some (itO m1 k1 (D.map (·.2.2))) := hO.sub _ (by simp) r _ single_self
  unfold seenN
  rw [this]
  simp [itO]
 have hDl := gq_len (d := d) (d2 := d2) hDn
 refine mnext_go (m := m1) (l := e1) (clock := k1) hO hwf (λ hall => .inl ⟨rfl, ?_⟩) (λ h z hz hzn hO => .inr ⟨_, _, rfl, ?_⟩)
 ·unfold S40_k1
  refine If.f rfl ?_
  unfold S40_k3
  have hpk : ((D.filterMap (gq d d2)).mergeSort λ x y => decide (x <= y)) = pk d d2 := by
   refine sort_rising (gq_nodup hDn) pk_lt λ i => ?_
   rw [gq_mem, mem_pk]
   constructor
   ·rintro ⟨z, h1, h2, h3, rfl⟩
    exact ⟨_, _, rfl, idx_at h2, h3⟩
   ·rintro ⟨n, x, rfl, h2, h3⟩
    have hxd : x ∈ d := List.mem_of_getElem? h2
    have hx := hbn x hxd
    rw [<- hb1] at hx
    obtain ⟨z, hz, rfl⟩ := mget_mem hx
    obtain ⟨z2, hz2, e⟩ := List.mem_map.1 (hall z hz)
    have : z2 = z := nodup_map_inj hwf.st (hD z2 hz2) hz e
    subst this
    exact ⟨z2, hz2, hxd, h3, by rw [idx_of hnd h2]⟩
  have hpl : (D.filterMap (gq d d2)).length = (pk d d2).length := by rw [<- hpk, List.length_mergeSort]
  refine slSort hO hs (by omega) λ h c' hs' hO => ⟨rfl, ?_⟩
  rw [hpk, hpl] at hs'
  rw [hpl]
  have hO2 : Own G h ([single b (.cells #[.pointer pb, .map (some m1), .map (some m2)] 94 (0, 0)), cb, single m1 (mpO eElk e1 k1), single m2 (mpO eElk e2 k2)] ++ (c' :: R)) := by (refine hO.sp λ a => ?_; simp only [cnt_app, List.append_eq, cnt_cons, cnt_nil]; omega)
  have hO3 := Own.closeWith hj hO2
  exact hK _ _ _ _ hs' (hO3.perm ((t.perm.symm.cons c').trans (List.Perm.swap _ _ _)))
 ·unfold S40_k1
  refine If.t rfl ?_
  have hzD : z.1 ∉ D.map (·.1) := λ hm => by
   obtain ⟨z2, h1, h2⟩ := List.mem_map.1 hm
   have : z2 = z := nodup_map_inj hwf.ky (hD z2 h1) hz h2
   subst this
   exact hzn (List.mem_map.2 ⟨z2, h1, rfl⟩)
  have hD' : ∀ z2 ∈ D ++ [z], z2 ∈ e1 := λ z2 h2 => by
   rcases List.mem_append.1 h2 with h2 | h2
   ·exact hD z2 h2
   ·rw [List.mem_singleton.1 h2]; exact hz
  have hDn' : ((D ++ [z]).map (·.1)).Nodup := by
   rw [List.map_append]
   refine List.nodup_append.2 ⟨hDn, by simp, λ a ha c hc e => ?_⟩
   subst e
   have := List.mem_singleton.1 hc
   rw [this] at ha
   exact hzD ha
  have hlen : (D ++ [z]).length <= e1.length := List.Nodup.length_le_of_subset (l₁ := D ++ [z]) (List.Pairwise.of_map _ (λ a b h e => h (by rw [e])) hDn') hD'
  have hfin : ∀ {h' : Heap} {M : List Heap}, single r (itO m1 k1 (D.map (·.2.2) ++ [z.2.2])) ∈ M -> Own G h' M -> seenN r (e1.length + 1) h' < e1.length + 1 - D.length := λ hm hO => by
   have : _ = some (itO m1 k1 (D.map (·.2.2) ++ [z.2.2])) := hO.sub _ hm r _ single_self
   unfold seenN
   rw [this]
   rw [List.length_append, List.length_singleton] at hlen
   simp [itO]
   omega
  rw [hseen]
  refine mentry_go (e := eElk) (m := m1) (l := e1) (clock := k1) (seen := List.map (λ (x : Elm × Int × Nat) => x.2.2) D) (y := z) hO hwf hz ⟨_, _, _, _, rfl, ?_⟩
  refine newK.go hO ?_
  clear hO; intro r23 h hO
  (repeat (with_reducible first | refine NN.go ?_ | refine LdI.g hO ?_ | refine LdSl.g hO ?_ | refine LdP.g hO ?_ | refine LdM.g hO ?_ | refine LdB.g hO ?_ | refine cell_g hO ?_ | refine Rq.go (by omega) ?_ | refine Rng.go (by omega) ?_ | (refine st1.g hO ?_; clear hO; intro h hO; dsimp only [ad, List.set] at hO)))
  have hmp : (D ++ [z]).map (λ (x : Elm × Int × Nat) => x.2.2) = D.map (λ (x : Elm × Int × Nat) => x.2.2) ++ [z.2.2] := by rw [List.map_append]; rfl
  have hskip : gq d d2 z = none -> (D ++ [z]).filterMap (gq d d2) = D.filterMap (gq d d2) := λ e => by
   rw [List.filterMap_append, List.filterMap_cons, e]; simp
  have htake : ∀ i, gq d d2 z = some i -> (D ++ [z]).filterMap (gq d d2) = D.filterMap (gq d d2) ++ [i] := λ i e => by
   rw [List.filterMap_append, List.filterMap_cons, e]; simp
  refine revPlace hO (((((((hr.cons _).cons _).cons _).cons _).cons _).cons _).cons _) hsm λ h n hO hn1 hn2 => ⟨_, rfl, ?_⟩
  refine If.dec (λ hge => ?_) (λ hge => ?_)
  ·obtain ⟨hnl, hdn⟩ := hn1 hge
   (repeat (with_reducible first | refine NN.go ?_ | refine LdI.g hO ?_ | refine LdSl.g hO ?_ | refine LdP.g hO ?_ | refine LdM.g hO ?_ | refine LdB.g hO ?_ | refine cell_g hO ?_ | refine Rq.go (by omega) ?_ | refine Rng.go (by omega) ?_ | (refine st1.g hO ?_; clear hO; intro h hO; dsimp only [ad, List.set] at hO)))
   refine lackCall hO hv λ h hO => ⟨_, rfl, ?_⟩
   unfold S40_k2
   have hzd : z.1 ∈ d := List.mem_of_getElem? hdn
   refine If.dec (λ hnot => ?_) (λ hnot => ?_)
   ·have hg : gq d d2 z = some n := by
     unfold gq
     rw [if_pos ⟨hzd, hnot⟩, idx_of hnd hdn]
     congr 1; omega
    refine newK.go hO ?_
    clear hO; intro r36 h hO
    refine append1 tI (y := n) (pc := ct) hO hs rfl (by omega) λ h q2 k2 ct2 hs2 hO => ⟨_, _, _, rfl, ?_⟩
    have hll : (D.filterMap (gq d d2)).length + 1 = ((D ++ [z]).filterMap (gq d d2)).length := by rw [htake _ hg, List.length_append, List.length_singleton]
    rw [hll] at hs2 ⊢
    refine ⟨⟨D ++ [z], q2, k2, ct2, rfl, ?_, hD', hDn', ?_⟩, hfin (by simp) hO⟩
    ·rw [<- htake _ hg] at hs2; exact hs2
    ·rw [hmp]; (refine hO.sp λ a => ?_; simp only [cnt_app, List.append_eq, cnt_cons, cnt_nil]; omega)
   ·have hg : gq d d2 z = none := by
     unfold gq
     rw [if_neg λ e => hnot e.2]
    refine ⟨⟨D ++ [z], q', k', ct, by rw [hskip hg], by rw [hskip hg]; exact hs, hD', hDn', ?_⟩, hfin (by simp) hO⟩
    rw [hmp]; (refine hO.sp λ a => ?_; simp only [cnt_app, List.append_eq, cnt_cons, cnt_nil]; omega)
  ·obtain ⟨_, hzd⟩ := hn2 (by omega)
   have hg : gq d d2 z = none := by
    unfold gq
    rw [if_neg λ e => hzd e.1]
   unfold S40_k2
   refine If.f rfl ?_
   refine ⟨⟨D ++ [z], q', k', ct, by rw [hskip hg], by rw [hskip hg]; exact hs, hD', hDn', ?_⟩, hfin (by simp) hO⟩
   rw [hmp]; (refine hO.sp λ a => ?_; simp only [cnt_app, List.append_eq, cnt_cons, cnt_nil]; omega)
end Go.Sl
set_option maxRecDepth 100000
namespace Go.Sl
open Go Go.Proofs
variable {G h : Heap} {L R : List Heap} {K : Value -> Heap -> Prop} {Kp : PK}
def elA (d : List Elm) (i : Int) : Elm := (d[i.toNat]?).getD ⟨0, 0, 0⟩
def dop (d : List Elm) (i : Int) : Op := ⟨2, i, 0, (elA d i).client, (elA d i).seq⟩
def iop (d : List Elm) (i : Int) : Op := ⟨1, i, (elA d i).ch, (elA d i).client, (elA d i).seq⟩
def chg (old now : List Elm) : List Op := (pk old now).reverse.map (dop old) ++ (pk now old).map (iop now)
theorem revBack {q : Option Addr} {l k : Nat} (hO : Own G h L)
  (hK : ∀ h' r, Own G h' (single r (.cells #[.slice q l k] 23 (0, 0)) :: L) -> K (.func (.func 57) #[] #[.pointer (some ⟨r, 0, none⟩)]) h') : CallF Tryz.prog G 39 #[.slice q l k] K Kp h := by
 refine S39_ok ?_
 unfold S39
 refine newK.go hO ?_
 intro r h hO
 exact hK _ r hO
def boxE (r : Nat) (q : Option Addr) (l k : Nat) : Heap := single r (.cells #[.slice q l k] 45 (0, 0))
def boxO (r : Nat) (q : Option Addr) (l k : Nat) : Heap := single r (.cells #[.slice q l k] 37 (0, 0))
def boxI (r : Nat) (q : Option Addr) (l k : Nat) : Heap := single r (.cells #[.slice q l k] 23 (0, 0))
theorem chgA {p : Option Addr} {y : Bk} {ps : PS} {cp : Heap} {a b : Int} {K Kn : Value -> Heap -> Prop} (hO : Own G h L) [t : Take L cp R] (hq : PastP p y ps cp) (hde : y.done.length = y.edits.length) (hsm : y.edits.length <= 4000) (hfit : Fit y.done)
  (hnd : ∀ k, k <= y.done.length -> (replayD (y.done.take k)).Nodup) (hbn : ∀ k, k <= y.done.length -> ∀ x ∈ replayD (y.done.take k), (ps.born x).isSome)
  (hK : ¬ ((0 <= a /\ a <= y.edits.length) /\ (0 <= b /\ b <= y.edits.length)) -> ∀ h', Own G h' L -> K (.tuple #[.slice none 0 0, .int .i64 180]) h')
  (hKn : 0 <= a /\ a <= y.edits.length -> 0 <= b /\ b <= y.edits.length -> ∀ h' r8 qa la ka pca qb lb kb pcb r12 rb qz kz cz,
   Sli eElm qa la ka (replayD (y.done.take a.toNat)) pca -> Sli eElm qb lb kb (replayD (y.done.take b.toNat)) pcb -> Sli eI qz (pk (replayD (y.done.take a.toNat)) (replayD (y.done.take b.toNat))).length kz (pk (replayD (y.done.take a.toNat)) (replayD (y.done.take b.toNat))) cz ->
   Own G h' (boxI rb qz (pk (replayD (y.done.take a.toNat)) (replayD (y.done.take b.toNat))).length kz :: cz :: boxO r12 none 0 0 :: boxE r8 qa la ka :: pca :: pcb :: L) ->
   Kn (.tuple #[.pointer p, .pointer (some ⟨r8, 0, none⟩), .slice qb lb kb, .pointer (some ⟨r12, 0, none⟩), .func (.func 57) #[] #[.pointer (some ⟨rb, 0, none⟩)]]) h') :
  S9026 G K Kp p a b Kn h := by
 unfold S9026
 have hlen := replayD_len y.done
 refine pastText hO hq hde hsm hfit (λ ha h qa la ka pca hsa hO => ⟨_, _, _, _, rfl, ?_⟩) (λ ha => ⟨_, _, _, _, rfl, ?_⟩)
 ·refine newK.go hO ?_
  clear hO; intro r9 h hO
  refine st1.g hO ?_
  clear hO; intro h hO
  simp only [List.set] at hO
  refine pastText hO hq hde hsm hfit (λ hb h qb lb kb pcb hsb hO => ⟨_, _, _, _, rfl, If.f rfl ?_⟩) (λ hb => ⟨_, _, _, _, rfl, If.f rfl ?_⟩)
  ·unfold S9026_k1
   refine If.f rfl ?_
   have hla := hsa.len
   have hlb := hsb.len
   have hna := hlen a.toNat
   have hnb := hlen b.toNat
   refine newK.go hO ?_
   clear hO; intro r17 h hO
   refine LdSl.g hO ?_
   refine revLacks hO (hsb.rdO hO (by simp)) (by omega) λ h v cv hv hO => ⟨_, rfl, ?_, ?_⟩
   ·exact hcell_own (a := ⟨r9, 0, none⟩) hO inferInstance (by with_unfolding_all rfl)
   refine revPicked (R := cv :: single r17 (.cells #[.slice none 0 0] 37 (0, 0)) :: pcb :: single r9 (.cells #[.slice qa la ka] 45 (0, 0)) :: pca :: R) hO hq (hsa.rdl (by simp)) hv (by omega) (hnd _ (by omega)) (hbn _ (by omega)) λ h qz kz cz hsz hO => ⟨_, _, _, rfl, ?_⟩
   refine revBack hO λ h rb hO => ⟨_, rfl, ?_⟩
   refine hKn ha hb _ _ _ _ _ _ _ _ _ _ _ _ _ _ _ hsa hsb hsz ?_
   unfold boxI boxO boxE
   (refine hO.sp λ a => ?_; simp only [cnt_app, List.append_eq, cnt_cons, cnt_nil]; omega)
  ·unfold S9026_k1
   exact If.t rfl (hK (λ e => hb e.2) _ (by (refine hO.sp λ a => ?_; simp only [cnt_app, List.append_eq, cnt_cons, cnt_nil]; omega)))
 ·refine newK.go hO ?_
  clear hO; intro r9 h hO
  refine st1.g hO ?_
  clear hO; intro h hO
  simp only [List.set] at hO
  refine pastText hO hq hde hsm hfit (λ hb h qb lb kb pcb hsb hO => ⟨_, _, _, _, rfl, If.t rfl ?_⟩) (λ hb => ⟨_, _, _, _, rfl, If.t rfl ?_⟩)
  ·unfold S9026_k1
   exact If.t rfl (hK (λ e => ha e.1) _ (by (refine hO.sp λ a => ?_; simp only [cnt_app, List.append_eq, cnt_cons, cnt_nil]; omega)))
  ·unfold S9026_k1
   exact If.t rfl (hK (λ e => ha e.1) _ (by (refine hO.sp λ a => ?_; simp only [cnt_app, List.append_eq, cnt_cons, cnt_nil]; omega)))
theorem chgB {M : List Heap} {r8 r12 la ka ln ko : Nat} {qa qo : Option Addr} {d : List Elm} {xs : List Op} {co : Heap} {i : Int}
  (hO : Own G h (co :: boxO r12 qo ln ko :: boxE r8 qa la ka :: M)) (hr : Rdl M eElm qa la d) (hs : Sli eOp qo ln ko xs co) (hi : 0 <= i /\ i < la) (hsm : ln <= 100000)
  (hK : ∀ h' qo' ko' co', Sli eOp qo' (ln + 1) ko' (xs ++ [dop d i]) co' -> Own G h' (co' :: boxO r12 qo' (ln + 1) ko' :: boxE r8 qa la ka :: M) -> K (.tuple #[]) h') :
  S9126 G K Kp ⟨r8, 0, none⟩ ⟨r12, 0, none⟩ i h := by
 unfold S9126
 unfold boxO boxE at *
 refine LdSl.g hO (LdSl.g hO (Rq.go hi ?_))
 obtain ⟨v, hv, hn'⟩ := (((hr.cons _).cons _).cons _).at eElm_ok hO (i := i) hi.1 hi.2
 have hel : elA d i = v := by unfold elA; rw [hv]; rfl
 refine hn' _ λ a _ hc => ?_
 refine LdI.i (hc 1 _ rfl) (LdSl.g hO (Rq.go hi ?_))
 refine hn' _ λ a _ hc => ?_
 refine LdI.i (hc 2 _ rfl) ?_
 refine newK.go hO ?_
 clear hO hn' hc; intro r17 h hO
 refine ⟨hcell_own (a := ⟨r12, 0, none⟩) hO inferInstance (by with_unfolding_all rfl), ?_⟩
 refine append1 tOp (y := dop d i) (pc := co) hO hs (by unfold dop; rw [hel]; rfl) (by omega) λ h q2 k2 ct2 hs2 hO => ⟨_, _, _, rfl, ?_⟩
 refine ⟨hcell_own (a := ⟨r8, 0, none⟩) hO inferInstance (by with_unfolding_all rfl), hcell_own (a := ⟨r8, 0, none⟩) hO inferInstance (by with_unfolding_all rfl), ?_⟩
 refine st1.g hO ?_
 clear hO; intro h hO
 simp only [List.set] at hO
 exact hK _ _ _ _ hs2 (by (refine hO.sp λ a => ?_; simp only [cnt_app, List.append_eq, cnt_cons, cnt_nil]; omega))
theorem chgC {L R M : List Heap} {p : Option Addr} {y : Bk} {ps : PS} {cp : Heap} {r8 r12 la ka lb kb ln ko : Nat} {qa qb qo : Option Addr} {old now : List Elm} {xs : List Op} {co : Heap}
  (hM : L = co :: boxO r12 qo ln ko :: boxE r8 qa la ka :: M) (hO : Own G h L) [t : Take M cp R] (hq : PastP p y ps cp) (hra : Rdl R eElm qa la old) (hrb : Rdl R eElm qb lb now) (hs : Sli eOp qo ln ko xs co) (hsm : ln <= 100000) (hla : la <= 10000) (hlb : lb <= 10000)
  (hnd : now.Nodup) (hbn : ∀ x ∈ now, (ps.born x).isSome)
  (hK : ∀ h' q l k c, Sli eOp q l k (xs ++ (pk now old).map (iop now)) c -> Own G h' (c :: M) -> K (.tuple #[.slice q l k, .int .i64 0]) h') :
  S9226 G K Kp p ⟨r8, 0, none⟩ qb lb kb ⟨r12, 0, none⟩ h := by
 subst hM
 unfold S9226
 unfold boxO boxE at *
 have hlb2 := hrb.len ((hO.perm (((t.perm.cons _).cons _).cons _)).drop1.drop1.drop1.drop1)
 refine LdSl.g hO ?_
 have hO0 : Own G h (co :: single r12 (.cells #[.slice qo ln ko] 37 (0, 0)) :: single r8 (.cells #[.slice qa la ka] 45 (0, 0)) :: cp :: R) := hO.perm (((t.perm.cons _).cons _).cons _)
 refine revLacks hO0 ((((hra.cons _).cons _).cons _).cons _) (by omega) λ h v cv hv hO => ⟨_, rfl, ?_⟩
 refine revPicked (R := cv :: co :: single r12 (.cells #[.slice qo ln ko] 37 (0, 0)) :: single r8 (.cells #[.slice qa la ka] 45 (0, 0)) :: R) hO hq ((((hrb.cons _).cons _).cons _).cons _) hv (by omega) hnd hbn λ h qz kz cz hsz hO => ⟨_, _, _, rfl, ?_⟩
 have hpl := pk_len (d := now) (d2 := old)
 have hlz := hsz.len
 obtain ⟨zs, hzs⟩ : ∃ zs, zs = pk now old := ⟨_, rfl⟩
 rw [<- hzs] at hsz hpl hlz hK
 rw [<- hzs]
 have hzm : ∀ (n : Nat) (z : Int), zs[n]? = some z -> 0 <= z /\ z < (lb : Int) := λ n z hz => by
  have hm : z ∈ pk now old := hzs ▸ List.mem_of_getElem? hz
  obtain ⟨m, x, rfl, h1, _⟩ := mem_pk.1 hm
  have := (List.getElem?_eq_some_iff.1 h1).1
  omega
 refine LoopS.go (λ vs h' => ∃ (n : Nat) (qo' : Option Addr) (ko' : Nat) (co' : Heap), n <= zs.length /\ vs = [.int .i64 n] /\ Sli eOp qo' (ln + n) ko' (xs ++ (zs.take n).map (iop now)) co' /\
   Own G h' (co' :: single r12 (.cells #[.slice qo' (ln + n) ko'] 37 (0, 0)) :: cz :: cp :: R)) (λ vs _ => match vs with | [.int _ n] => (zs.length - n).toNat | _ => 0)
  ⟨0, qo, ko, co, by omega, rfl, by simpa using hs, by simp only [Nat.add_zero]; (refine hO.sp λ a => ?_; simp only [cnt_app, List.append_eq, cnt_cons, cnt_nil]; omega)⟩ ?_
 clear hO hO0
 rintro jv vs h ⟨n, qo', ko', co', hn, rfl, hs, hO⟩
 unfold S9226_l10
 refine ⟨_, rfl, If.dec (λ hlt => ?_) (λ hlt => ?_)⟩
 ·refine Rq.go ⟨by omega, hlt⟩ ?_
  obtain ⟨z, hz, hn'⟩ := (hsz.rdl (L := co' :: single r12 (.cells #[.slice qo' (ln + n) ko'] 37 (0, 0)) :: cz :: cp :: R) (by simp)).at eI_ok hO (i := (n : Int)) (by omega) hlt
  have hz' : zs[n]? = some z := by simpa using hz
  have hzb := hzm n z hz'
  refine hn' _ λ a _ hc => ?_
  refine LdI.i (hc 0 _ rfl) ?_
  refine LdSl.g hO (Rq.go hzb ?_)
  obtain ⟨v, hv, hn2⟩ := ((((hrb.cons _).cons _).cons _).cons _).at eElm_ok hO (i := z) hzb.1 hzb.2
  have hel : elA now z = v := by unfold elA; rw [hv]; rfl
  refine hn2 _ λ a1 _ hc1 => LdI.i (hc1 0 _ rfl) (Rq.go hzb ?_)
  refine hn2 _ λ a2 _ hc2 => LdI.i (hc2 1 _ rfl) (Rq.go hzb ?_)
  refine hn2 _ λ a3 _ hc3 => LdI.i (hc3 2 _ rfl) ?_
  refine newK.go hO ?_
  clear hO hn' hn2 hc hc1 hc2 hc3; intro r30 h hO
  refine ⟨hcell_own (a := ⟨r12, 0, none⟩) hO inferInstance (by with_unfolding_all rfl), ?_⟩
  refine append1 tOp (y := iop now z) (pc := co') hO hs (by unfold iop; rw [hel]; rfl) (by omega) λ h q2 k2 ct2 hs2 hO => ⟨_, _, _, rfl, ?_⟩
  refine st1.g hO ?_
  clear hO; intro h hO
  simp only [List.set] at hO
  refine Rng.go (by omega) ⟨⟨n + 1, q2, k2, ct2, by omega, rfl, ?_, by rw [show ln + (n + 1) = ln + n + 1 by omega]; (refine hO.sp λ a => ?_; simp only [cnt_app, List.append_eq, cnt_cons, cnt_nil]; omega)⟩, by simp only; omega⟩
  rw [List.take_add_one, hz', Option.toList_some, List.map_append, <- List.append_assoc]
  exact hs2
 ·have hnl : n = zs.length := by omega
  subst hnl
  unfold S9226_k1
  rw [List.take_length] at hs
  refine LdSl.g hO ?_
  refine hK _ _ _ _ _ hs ?_
  have hO2 : Own G h (co' :: cp :: R) := by (refine hO.sp λ a => ?_; simp only [cnt_app, List.append_eq, cnt_cons, cnt_nil]; omega)
  exact hO2.perm (t.perm.symm.cons _)
end Go.Sl
set_option maxRecDepth 100000
namespace Go.Sl
open Go Go.Proofs
variable {G h : Heap} {L R : List Heap} {K : Value -> Heap -> Prop} {Kp : PK}
noncomputable abbrev bd26 : Code := bodyOf Tryz.f26
theorem vc_pre {D : List Deferred} {E : TE} {P : Program} (T : TOk P E) (hm : P.follows .mixedOrders = true) {G : Heap} {F : RF} {m : Nat} {ann : Nat -> LAnn} {Kp : PK} {W : List Nat} {Qv : Exit -> Frm -> Heap -> Prop} {Q : Exit -> Act -> World -> Prop}
  (hQ : ∀ e a w, e ≠ .normal -> QW D m G F (λ _ => True) Qv Kp e a w -> Q e a w) :
  ∀ (n : Nat) (c : Code) {ρ : Frm} {h : Heap} {a : Act} {w : World}, rfOk n c = true -> wIn W (rfA n c) = true -> annOk ann m (rfA n c) = true -> vcC E P G m ann Kp (rfA n c) Qv ρ h -> Ag D m a ρ -> Fr G w h F ->
   (∀ a' w' ρ' h', Ag D m a' ρ' -> Fr G w' h' F -> Qv .normal ρ' h' -> (rfX n c).wp P (Exit.then (λ a w => (rfC n c).wp P Q a w) Q) a' w') -> c.wp P Q a w := by
 intro n
 induction n with
 | zero =>
  intro c ρ h a w hk hW hA hv g f hn
  match c, hk, hW, hA, hv, hn with
  | .seq (.seq c x) r, _, hW, hA, hv, hn =>
   refine wp_seq (wp_seq (wp_mono (vcC_spec T hm c (X := λ _ => True) (W := W) (λ _ _ _ _ => trivial) hW hA hv g f trivial) λ e a' w' hq => ?_))
   cases e with
   | normal =>
    obtain ⟨ρ', h', g', f', _, hq⟩ := hq
    refine wp_mono (hn a' w' ρ' h' g' f' hq) λ e a w hq => ?_
    cases e <;> exact hq
   | _ => exact hQ _ _ _ (by simp) hq
 | succ n ih =>
  intro c ρ h a w hk hW hA hv g f hn
  match c, hk, hW, hA, hv, hn with
  | .seq x y, hk, hW, hA, hv, hn =>
   have hW := Bool.and_eq_true_iff.1 hW
   have hA := Bool.and_eq_true_iff.1 hA
   refine wp_seq (wp_mono (vcC_spec T hm x (X := λ _ => True) (W := W) (λ _ _ _ _ => trivial) hW.1 hA.1 hv g f trivial) λ e a' w' hq => ?_)
   cases e with
   | normal =>
    obtain ⟨ρ', h', g', f', _, hq⟩ := hq
    exact ih y hk hW.2 hA.2 hq g' f' hn
   | _ => exact hQ _ _ _ (by simp) hq
def isRg : Code -> Bool
 | .region _ ops _ => ops.toList.all noDf
 | _ => false
theorem reg_in' {D : List Deferred} {E : TE} {P : Program} (T : TOk P E) (hm : P.follows .mixedOrders = true) {Fn : Fence} (hF : Wd Fn) {m : Nat} {G : Heap} {F : RF} {n : Nat} {ann : Nat -> LAnn} {Kp : PK} {c : Code} {Q : Exit -> Frm -> Heap -> Prop} {ρ : Frm} {h : Heap} {a : Act} {w : World} (hd : isRg c = true)
  (hh : vcC E P G n ann Kp c Q ρ h) (g : Ag D n a ρ) (f : Fr G w h F) : c.wpIn Fn m P (QW D n G F (λ _ => True) Q Kp) a w := by
 match c, hd, hh with
 | .region _ _ _, hd, hh => exact reg_in T hm hF hd hh g f
theorem x26 : rfX 5 bd26 = .block 0 (.rangeFunc (.tmp 40) #[41, 42] (rfR (rfF (rfX 5 bd26))) (.block 1 (rfF (rfB (rfF (rfX 5 bd26)))))) := by kernel_rfl
theorem rg7 : isRg (rfR (rfF (rfX 5 bd26))) = true := by kernel_rfl
theorem rg8 : isRg (rfF (rfB (rfF (rfX 5 bd26)))) = true := by kernel_rfl
theorem vcAs26 {G : Heap} {Q : Exit -> Frm -> Heap -> Prop} {Kp : PK} {n : Int} {ρ : Frm} {h : Heap} :
  Q .normal (fput (fputs [(42, .int .i64 n)] ρ) 14 (.int .i64 n)) h = vcC E9126 Tryz.prog G 90 ann9126 Kp (rfR (rfF (rfX 5 bd26))) Q (fputs [(42, .int .i64 n)] ρ) h := by kernel_rfl
theorem fputs_self : ∀ (l : List (Nat × Value)) (ρ : Frm), (∀ t ∈ l, ρ t.1 = t.2) -> fputs l ρ = ρ := by
 intro l
 induction l with
 | nil => intro ρ _; rfl
 | cons x l ih =>
  intro ρ h
  show fput (fputs l ρ) x.1 x.2 = ρ
  rw [ih ρ λ t ht => h t (by simp [ht])]
  funext t
  unfold fput
  cases hb : Nat.beq t x.1 with
  | true => rw [Nat.eq_of_beq_eq_true hb]; exact (h x (by simp)).symm
  | false => rfl
theorem ag_enter {fn : Func} {args : Array Value} {n : Nat} (hn : fn.ntmps = n) (hsz : args.size <= n) : Ag [] n { tmps := args ++ Array.replicate (fn.ntmps - args.size) undef, defers := [] } (frmA args.toList 0) := by
 refine ⟨by simp [hn]; omega, λ t => ?_, rfl⟩
 rw [frmA_get]
 simp only [Nat.zero_le, if_true, Nat.sub_zero, Array.getD_eq_getD_getElem?, List.getD_eq_getElem?_getD, Array.getElem?_append, Array.getElem?_toList]
 split
 ·rfl
 ·rename_i hge
  have h1 : args[t]? = none := Array.getElem?_eq_none (by omega)
  rw [h1]
  cases hr : (Array.replicate (fn.ntmps - args.size) undef)[t - args.size]? with
  | none => rfl
  | some v =>
   have := Array.getElem?_replicate (n := fn.ntmps - args.size) (i := t - args.size) (v := undef)
   rw [hr] at this
   split at this
   ·cases this; rfl
   ·cases this
theorem chgEnd {R M : List Heap} {F : RF} {a : Act} {w : World} {ρ : Frm} {bb : Nat} {p : Option Addr} {y : Bk} {ps : PS} {cp : Heap} {r8 r12 la ka lb kb ln ko : Nat} {qa qb qo : Option Addr} {old now : List Elm} {xs : List Op} {co : Heap} {RR : Ending -> World -> Prop}
  (g : Ag [{ target := .collected bb, args := #[] }] 90 a ρ) (f : Fr G w h F) (e0 : ρ 0 = .pointer p) (e8 : ρ 8 = .pointer (some ⟨r8, 0, none⟩)) (e10 : ρ 10 = .slice qb lb kb) (e12 : ρ 12 = .pointer (some ⟨r12, 0, none⟩))
  (hO : Own G h (co :: boxO r12 qo ln ko :: boxE r8 qa la ka :: single bb (.deferred (some [])) :: M)) [t : Take M cp R] (hq : PastP p y ps cp) (hra : Rdl R eElm qa la old) (hrb : Rdl R eElm qb lb now) (hs : Sli eOp qo ln ko xs co) (hsm : ln <= 100000) (hla : la <= 10000) (hlb : lb <= 10000)
  (hnd : now.Nodup) (hbn : ∀ x ∈ now, (ps.born x).isSome)
  (hK : ∀ h' q l k c, Sli eOp q l k (xs ++ (pk now old).map (iop now)) c -> Own G h' (c :: M) -> K (.tuple #[.slice q l k, .int .i64 0]) h')
  (hR : ∀ v h' w', K v h' -> Fr G w' h' F -> RR (.returned v) w') :
  (rfC 5 bd26).wp Tryz.prog (bodyPostM Fence.wide 2 Tryz.prog Tryz.f26 RR) a w := by
 let K2 : Value -> Heap -> Prop := λ v h' => ∃ q l k c, v = .tuple #[.slice q l k, .int .i64 0] /\ Sli eOp q l k (xs ++ (pk now old).map (iop now)) c /\ Own G h' (c :: single bb (.deferred (some [])) :: M)
 have hS : S9226 G K2 (λ _ _ => False) p ⟨r8, 0, none⟩ qb lb kb ⟨r12, 0, none⟩ h :=
  chgC rfl hO hq (hra.cons _) (hrb.cons _) hs hsm hla hlb hnd hbn λ h' q l k c h1 h2 => ⟨q, l, k, c, rfl, h1, h2⟩
 have hρ : fputs [(0, .pointer p), (8, .pointer (some ⟨r8, 0, none⟩)), (10, .slice qb lb kb), (12, .pointer (some ⟨r12, 0, none⟩))] ρ = ρ := fputs_self _ _ λ t ht => by
  simp only [List.mem_cons, List.not_mem_nil, or_false] at ht
  rcases ht with rfl | rfl | rfl | rfl
  ·exact e0
  ·exact e8
  ·exact e10
  ·exact e12
 have hv := Eq.mp (vc9226 (ρ := ρ)) hS
 rw [hρ] at hv
 have hb := Bool.and_eq_true_iff.1 b9226
 refine wp_mono (vcC_spec T9226 hmix _ (X := λ _ => True) (W := rangeL 90) (λ _ _ _ _ => trivial) hb.1 hb.2 hv g f trivial) λ e a' w' hq' => ?_
 have done : (∃ ρ' h', Ag [{ target := .collected bb, args := #[] }] 90 a' ρ' /\ Fr G w' h' F /\ True /\ K2 (.tuple #[ρ' 6, ρ' 7]) h') -> LeavesInM Fence.wide 2 Tryz.prog Tryz.f26 a'.tmps RR a'.defers .returning w' := by
  rintro ⟨ρ', h', g', f', _, q, l, k, c, e, hs', hO'⟩
  rw [g'.defers]
  have hbb : h' bb = some (.deferred (some [])) := hO'.sub (single bb (.deferred (some []))) (by simp) bb _ single_self
  refine ⟨by simp, .inl ⟨bb, _, rfl, run_takeDeferred (f'.own _ _ hbb), ?_⟩⟩
  have f2 := f'.setObj hbb (.deferred none)
  have hO2 : Own G (hupd h' bb (.deferred none)) (c :: single bb (.deferred none) :: M) := hO'.set (Find.there c bb _ _ _) _
  obtain ⟨v, hv, hk⟩ := results_run (P := Tryz.prog) (fn := Tryz.f26) (K := K) T9226 g' f2 (by
   show K (.tuple #[ρ' 6, ρ' 7]) _
   rw [e]
   exact hK _ _ _ _ _ hs' hO2.drop2)
  exact ⟨v, hv, hR _ _ _ hk f2⟩
 cases e with
 | normal => exact done hq'
 | ret => exact done hq'
 | panic ch => obtain ⟨_, _, _, hk⟩ := hq'; exact hk.elim
 | outgrown => exact hq'.elim
 | exit id => obtain ⟨_, _, _, _, _, hk⟩ := hq'; exact hk.elim
 | goto l => obtain ⟨_, _, _, _, _, hk⟩ := hq'; exact hk.elim
end Go.Sl
set_option maxRecDepth 100000
namespace Go.Sl
open Go Go.Proofs
variable {G h : Heap} {L R : List Heap} {K : Value -> Heap -> Prop} {Kp : PK}
noncomputable abbrev lp26 (fn : FuncId) (tmps : Array Value) (bb : Nat) : Loop :=
 { state := .ready, pending := none, fn, tmps, params := #[41, 42], assign := rfR (rfF (rfX 5 bd26)), body := .block 1 (rfF (rfB (rfF (rfX 5 bd26)))), defers := bb }
def RJ (G : Heap) (F : RF) (lo bb : Nat) (lp : Loop) (r8 r12 : Nat) (qa : Option Addr) (la ka : Nat) (ops : List Op) (X : List Heap) (k : Nat) (W : World) : Prop :=
 ∃ h q kk co, Sli eOp q k kk (ops.take k) co /\ Own G h (co :: boxO r12 q k kk :: boxE r8 qa la ka :: single bb (.deferred (some [])) :: single lo (.loop lp) :: X) /\ Fr G W h F
theorem take_rev {zs : List Int} {k : Nat} {f : Int -> Op} (h : k < zs.length) : (zs.reverse.map f).take (k + 1) = (zs.reverse.map f).take k ++ [f (zs[zs.length - 1 - k]?.getD 0)] := by
 rw [List.take_add_one, List.getElem?_map, List.getElem?_reverse h, List.getElem?_eq_getElem (by omega)]
 rfl
theorem ag_yield {a : Act} {ρ : Frm} {v1 v2 : Value} (g : Ag [] 90 a ρ) : Ag [] 90 { tmps := ((#[41, 42] : Array Tmp).zip #[v1, v2]).foldl (λ tmps (t, a) => tmps.setIfInBounds t a) a.tmps, defers := [] } (fput (fput ρ 41 v1) 42 v2) := by
 have h := (g.put (d := 41) (by omega) v1).put (d := 42) (by omega) v2
 have e : ((#[41, 42] : Array Tmp).zip #[v1, v2]).foldl (λ tmps (t, a) => tmps.setIfInBounds t a) a.tmps = ((a.put (some 41) v1).put (some 42) v2).tmps := by
  simp [Act.put]
 rw [e]
 exact ⟨h.size, h.val, rfl⟩
theorem chgRound {G : Heap} {F : RF} {lo bb : Nat} {fn : FuncId} {a : Act} {ρ : Frm} {r8 r12 la ka : Nat} {qa : Option Addr} {old : List Elm} {zs : List Int} {X : List Heap} {k m : Nat} {W : World}
  (g : Ag [] 90 a ρ) (e8 : ρ 8 = .pointer (some ⟨r8, 0, none⟩)) (e12 : ρ 12 = .pointer (some ⟨r12, 0, none⟩)) (hra : Rdl X eElm qa la old) (hzl : zs.length <= 100000) (hzm : ∀ (n : Nat) (z : Int), zs[n]? = some z -> 0 <= z /\ z < (la : Int))
  (hJ : RJ G F lo bb (lp26 fn a.tmps bb) r8 r12 qa la ka (zs.reverse.map (dop old)) X k W) (hk : k < zs.length) :
  YieldAt Fence.wide m Tryz.prog lo #[.int .i64 ((zs.length - 1 - k : Nat) : Int), .int .i64 (zs[zs.length - 1 - k]?.getD 0)] W λ e W' => e = .returned (.bool true) /\ RJ G F lo bb (lp26 fn a.tmps bb) r8 r12 qa la ka (zs.reverse.map (dop old)) X (k + 1) W' := by
 obtain ⟨h, q, kk, co, hs, hO, f⟩ := hJ
 obtain ⟨z, hz⟩ : ∃ z, zs[zs.length - 1 - k]? = some z := ⟨_, List.getElem?_eq_getElem (by omega)⟩
 have hzb := hzm _ _ hz
 have htk := take_rev (f := dop old) hk
 rw [hz] at htk ⊢
 simp only [Option.getD_some] at htk ⊢
 have hlo : h lo = some (.loop (lp26 fn a.tmps bb)) := hO.sub (single lo (.loop (lp26 fn a.tmps bb))) (by simp) lo _ single_self
 refine ⟨fn, _, rfR (rfF (rfX 5 bd26)), .block 1 (rfF (rfB (rfF (rfX 5 bd26)))), run_yield (f.own _ _ hlo) rfl, ?_⟩
 refine roundIn_of_wpIn trivial ?_
 have g1 := ag_yield (v1 := .int .i64 ((zs.length - 1 - k : Nat) : Int)) (v2 := .int .i64 z) g
 have hv := Eq.mp (vcAs26 (G := G) (Kp := λ _ _ => False) (n := z) (ρ := fput ρ 41 (.int .i64 ((zs.length - 1 - k : Nat) : Int))) (h := h) (Q := λ e ρ2 h2 => e = .normal /\ ρ2 = fput (fputs [(42, .int .i64 z)] (fput ρ 41 (.int .i64 ((zs.length - 1 - k : Nat) : Int)))) 14 (.int .i64 z) /\ h2 = h)) ⟨rfl, rfl, rfl⟩
 refine wpIn_mono (reg_in' T9126 hmix (wd_round lo) rg7 hv g1 f) λ e a2 w2 hq => ?_
 cases e with
 | normal =>
  obtain ⟨ρ2, h2, g2, f2, _, _, rfl, rfl⟩ := hq
  refine ⟨_, run_beginRound (f2.own _ _ hlo) rfl, ?_⟩
  have f3 := f2.setObj hlo (.loop { lp26 fn a.tmps bb with state := .busy })
  have hO3 : Own G (hupd h2 lo (.loop { lp26 fn a.tmps bb with state := .busy })) (co :: boxO r12 q k kk :: boxE r8 qa la ka :: single bb (.deferred (some [])) :: single lo (.loop { lp26 fn a.tmps bb with state := .busy }) :: X) :=
   hO.set (Find.there co lo _ _ _ (f := Find.there _ lo _ _ _ (f := Find.there _ lo _ _ _ (f := Find.there _ lo _ _ _ (f := Find.here lo _ X))))) _
  refine wpIn_block ?_
  let K3 : Value -> Heap -> Prop := λ _ h4 => ∃ q2 kk2 co2, Sli eOp q2 (k + 1) kk2 ((zs.reverse.map (dop old)).take (k + 1)) co2 /\ Own G h4 (co2 :: boxO r12 q2 (k + 1) kk2 :: boxE r8 qa la ka :: single bb (.deferred (some [])) :: single lo (.loop { lp26 fn a.tmps bb with state := .busy }) :: X)
  have hS : S9126 G K3 (λ _ _ => False) ⟨r8, 0, none⟩ ⟨r12, 0, none⟩ z (hupd h2 lo (.loop { lp26 fn a.tmps bb with state := .busy })) :=
   chgB hO3 ((hra.cons _).cons _) hs hzb (by omega) λ h' q' k' c' hs' hO' => ⟨q', k', c', by rw [htk]; exact hs', hO'⟩
  have hv2 := Eq.mp (vc9126 (ρ := fput (fputs [(42, .int .i64 z)] (fput ρ 41 (.int .i64 ((zs.length - 1 - k : Nat) : Int)))) 14 (.int .i64 z))) hS
  rw [fputs_self _ _ λ t ht => by
   simp only [List.mem_cons, List.not_mem_nil, or_false] at ht
   rcases ht with rfl | rfl | rfl
   ·exact e8
   ·exact e12
   ·rfl] at hv2
  refine wpIn_mono (reg_in' T9126 hmix (wd_round lo) rg8 hv2 g2 f3) λ e a3 w4 hq => ?_
  cases e with
  | normal =>
   obtain ⟨ρ4, h4, g4, f4, _, q2, kk2, co2, hs4, hO4⟩ := hq
   have hlo4 : h4 lo = some (.loop { lp26 fn a.tmps bb with state := .busy }) := hO4.sub (single lo (.loop { lp26 fn a.tmps bb with state := .busy })) (by simp) lo _ single_self
   refine ⟨_, _, run_endRound none (f4.own _ _ hlo4), rfl, ?_⟩
   refine ⟨_, q2, kk2, co2, hs4, ?_, f4.setObj hlo4 _⟩
   exact hO4.set (Find.there co2 lo _ _ _ (f := Find.there _ lo _ _ _ (f := Find.there _ lo _ _ _ (f := Find.there _ lo _ _ _ (f := Find.here lo _ X))))) _
  | ret => obtain ⟨_, _, _, _, _, hk⟩ := hq; exact hk.elim
  | panic ch => obtain ⟨_, _, _, hk⟩ := hq; exact hk.elim
  | outgrown => exact hq.elim
  | exit id => obtain ⟨_, _, _, _, _, hk⟩ := hq; exact hk.elim
  | goto l => obtain ⟨_, _, _, _, _, hk⟩ := hq; exact hk.elim
 | ret => obtain ⟨_, _, _, _, _, hk, _⟩ := hq; cases hk
 | panic ch => obtain ⟨_, _, _, hk⟩ := hq; exact hk.elim
 | outgrown => exact hq.elim
 | exit id => obtain ⟨_, _, _, _, _, hk, _⟩ := hq; cases hk
 | goto l => obtain ⟨_, _, _, _, _, hk, _⟩ := hq; cases hk
end Go.Sl
set_option maxRecDepth 100000
namespace Go.Sl
open Go Go.Proofs
variable {G h : Heap} {L R : List Heap} {K : Value -> Heap -> Prop} {Kp : PK}
theorem Sli.inv {α : Type} {e : En α} {p : Option Addr} {l c : Nat} {xs : List α} {pc : Heap} (h : Sli e p l c xs pc) : (p = none /\ c = 0 /\ xs = [] /\ pc = emp) ∨ ∃ b js z, p = some ⟨b, 0, none⟩ /\ c = xs.length + js.length /\ pc = single b (blk e z (xs ++ js)) := by
 cases h with
 | no => exact .inl ⟨rfl, rfl, rfl, rfl⟩
 | bk js z hz => exact .inr ⟨_, js, z, rfl, rfl, rfl⟩
theorem Mk.of {G : Heap} {w : World} {h : Heap} {F : RF} {L : List Heap} (f : Fr G w h F) (hO : Own G h L) (o : Obj) : Own G (hupd h w.heap.size o) (single w.heap.size o :: L) /\ Fr G (w.alloc o) (hupd h w.heap.size o) F :=
 ⟨hO.new f.size.1 f.size.2.2 o, f.push o⟩
set_option maxHeartbeats 2000000 in
theorem chgMid {F : RF} {a : Act} {w : World} {ρ : Frm} {p : Option Addr} {y : Bk} {ps : PS} {cp : Heap} {r8 r12 rb la ka lb kb kz : Nat} {qa qb qz : Option Addr} {old now : List Elm} {cz pca pcb : Heap} {RR : Ending -> World -> Prop}
  (g : Ag [] 90 a ρ) (f : Fr G w h F) (e0 : ρ 0 = .pointer p) (e8 : ρ 8 = .pointer (some ⟨r8, 0, none⟩)) (e10 : ρ 10 = .slice qb lb kb) (e12 : ρ 12 = .pointer (some ⟨r12, 0, none⟩)) (e40 : ρ 40 = .func (.func 57) #[] #[.pointer (some ⟨rb, 0, none⟩)])
  (hsa : Sli eElm qa la ka old pca) (hsb : Sli eElm qb lb kb now pcb) (hsz : Sli eI qz (pk old now).length kz (pk old now) cz)
  (hO : Own G h (boxI rb qz (pk old now).length kz :: cz :: boxO r12 none 0 0 :: boxE r8 qa la ka :: pca :: pcb :: L)) [t : Take L cp R] (hq : PastP p y ps cp) (hla : la <= 10000) (hlb : lb <= 10000)
  (hnd : now.Nodup) (hbn : ∀ x ∈ now, (ps.born x).isSome)
  (hK : ∀ h' q l k c, Sli eOp q l k (chg old now) c -> Own G h' (c :: L) -> K (.tuple #[.slice q l k, .int .i64 0]) h')
  (hR : ∀ v h' w', K v h' -> Fr G w' h' F -> RR (.returned v) w') :
  (rfX 5 bd26).wp Tryz.prog (Exit.then (λ a w => (rfC 5 bd26).wp Tryz.prog (bodyPostM Fence.wide 2 Tryz.prog Tryz.f26 RR) a w) (bodyPostM Fence.wide 2 Tryz.prog Tryz.f26 RR)) a w := by
 rw [x26]
 refine wp_block ((wpIn_wide (n := 2)).1 (wpIn_rangeFunc λ fn _ => ?_))
 have hlz := pk_len (d := old) (d2 := now)
 have hlo := hsa.len
 have hzm : ∀ (n : Nat) (z : Int), (pk old now)[n]? = some z -> 0 <= z /\ z < (la : Int) := λ n z hz => by
  obtain ⟨m, x, rfl, h1, _⟩ := mem_pk.1 (List.mem_of_getElem? hz)
  have := (List.getElem?_eq_some_iff.1 h1).1
  omega
 obtain ⟨zs, hzs⟩ : ∃ zs, zs = pk old now := ⟨_, rfl⟩
 have hchg : chg old now = zs.reverse.map (dop old) ++ (pk now old).map (iop now) := by rw [hzs]; rfl
 rw [<- hzs] at hsz hO hlz hzm
 obtain ⟨hO1, f1⟩ := Mk.of f hO (.deferred (some []))
 obtain ⟨hO2, f2⟩ := Mk.of f1 hO1 (.loop (lp26 fn a.tmps w.heap.size))
 have hsz1 : (w.alloc (.deferred (some []))).heap.size = w.heap.size + 1 := Array.size_push _
 rw [hsz1] at hO2 f2
 generalize hbb : w.heap.size = bb at hO2 f2 hO1 hsz1
 have hO3 : Own G (hupd (hupd h bb (.deferred (some []))) (bb + 1) (.loop (lp26 fn a.tmps bb))) (emp :: boxO r12 none 0 0 :: boxE r8 qa la ka :: single bb (.deferred (some [])) :: single (bb + 1) (.loop (lp26 fn a.tmps bb)) :: (boxI rb qz zs.length kz :: cz :: pca :: pcb :: L)) := by
  refine Own.addEmp0 ?_
  have hO := hO2
  (refine hO.sp λ a => ?_; simp only [cnt_app, List.append_eq, cnt_cons, cnt_nil]; omega)
 have hJ0 : RJ G F (bb + 1) bb (lp26 fn a.tmps bb) r8 r12 qa la ka (zs.reverse.map (dop old)) (boxI rb qz zs.length kz :: cz :: pca :: pcb :: L) 0 ((w.alloc (.deferred (some []))).alloc (.loop (lp26 fn a.tmps bb))) :=
  ⟨_, none, 0, emp, .no, hO3, f2⟩
 have hra : Rdl (boxI rb qz zs.length kz :: cz :: pca :: pcb :: L) eElm qa la old := hsa.rdl (by simp)
 have hend : ∀ W, RJ G F (bb + 1) bb (lp26 fn a.tmps bb) r8 r12 qa la ka (zs.reverse.map (dop old)) (boxI rb qz zs.length kz :: cz :: pca :: pcb :: L) zs.length W ->
   rangePost Fence.wide 2 Tryz.prog (bb + 1) (Exit.inBlock 0 (Exit.then (λ a w => (rfC 5 bd26).wp Tryz.prog (bodyPostM Fence.wide 2 Tryz.prog Tryz.f26 RR) a w) (bodyPostM Fence.wide 2 Tryz.prog Tryz.f26 RR)))
    { a with defers := [{ target := .collected bb, args := #[] }] ++ a.defers } (.returned undef) W := by
  rintro W ⟨h3, q, kk, co, hs, hO, f3⟩
  have hl3 : h3 (bb + 1) = some (.loop (lp26 fn a.tmps bb)) := hO.sub (single (bb + 1) (.loop (lp26 fn a.tmps bb))) (by simp) _ _ single_self
  refine ⟨none, _, run_endLoop (f3.own _ _ hl3) (by simp), ?_⟩
  have f4 := f3.setObj hl3 (.loop { lp26 fn a.tmps bb with state := .exhausted })
  have hO4 : Own G _ (co :: boxO r12 q zs.length kk :: boxE r8 qa la ka :: single bb (.deferred (some [])) :: single (bb + 1) (.loop { lp26 fn a.tmps bb with state := .exhausted }) :: (boxI rb qz zs.length kz :: cz :: pca :: pcb :: L)) :=
   hO.set (Find.there co (bb + 1) _ _ _ (f := Find.there _ (bb + 1) _ _ _ (f := Find.there _ (bb + 1) _ _ _ (f := Find.there _ (bb + 1) _ _ _ (f := Find.here (bb + 1) _ _))))) _
  have hs' : Sli eOp q zs.length kk (zs.reverse.map (dop old)) co := by
   have : (zs.reverse.map (dop old)).take zs.length = zs.reverse.map (dop old) := List.take_of_length_le (by simp)
   rw [this] at hs; exact hs
  have ga : Ag [{ target := .collected bb, args := #[] }] 90 { a with defers := [{ target := .collected bb, args := #[] }] ++ a.defers } ρ := ⟨g.size, g.val, by rw [g.defers]; rfl⟩
  refine chgEnd (R := single (bb + 1) (.loop { lp26 fn a.tmps bb with state := .exhausted }) :: boxI rb qz zs.length kz :: cz :: pca :: pcb :: R) ga f4 e0 e8 e10 e12 hO4 hq (hsa.rdl (by simp)) (hsb.rdl (by simp)) hs' (by omega) hla hlb hnd hbn (λ h' q l k c hs hO => ?_) hR
  exact hK _ _ _ _ _ (by rw [hchg]; exact hs) (by (refine hO.sp λ a => ?_; simp only [cnt_app, List.append_eq, cnt_cons, cnt_nil]; omega))
 refine ⟨bb + 1, [{ target := .collected bb, args := #[] }], (w.alloc (.deferred (some []))).alloc (.loop (lp26 fn a.tmps bb)), { target := .fn (.func 57) #[.pointer (some ⟨rb, 0, none⟩)], args := #[.func (.yield (bb + 1)) #[] #[]] }, (w.alloc (.deferred (some []))).alloc (.loop (lp26 fn a.tmps bb)), 57, #[.func (.yield (bb + 1)) #[] #[], .pointer (some ⟨rb, 0, none⟩)], (w.alloc (.deferred (some []))).alloc (.loop (lp26 fn a.tmps bb)), ?_, ?_, λ _ _ => trivial, ?_, λ h => (by cases h), ?_⟩
 ·subst hbb
  exact run_enterLoop_outer fn a.tmps #[41, 42] _ _
 ·have : a.eval (.tmp 40) = .func (.func 57) #[] #[.pointer (some ⟨rb, 0, none⟩)] := by rw [g.eval]; exact e40
  unfold resolve
  simp only [this]
  simp [Deferred.ofValue, Act.eval, Sem.run, pure]
 ·have := enters_of (P := Tryz.prog) Tryz.func57 (by kernel_rfl) rfl
  exact this _ _
 ·rcases hsz.inv with ⟨rfl, rfl, rfl, rfl⟩ | ⟨bz, js, z, rfl, rfl, rfl⟩
  ·refine (back0 (2 - 1) (bb + 1) rb (λ k W => RJ G F (bb + 1) bb (lp26 fn a.tmps bb) r8 r12 qa la ka ((([] : List Int)).reverse.map (dop old)) (boxI rb none 0 0 :: emp :: pca :: pcb :: L) k W) _ ?_ hJ0).mono ?_
   ·have : (hupd (hupd h bb (.deferred (some []))) (bb + 1) (.loop (lp26 fn a.tmps bb))) rb = some (.cells #[.slice none 0 0] 23 (0, 0)) := hO3.sub (boxI rb none 0 0) (by simp) rb _ single_self
    have := f2.own _ _ this
    unfold World.cell?
    simp [this]
   ·rintro e W ⟨⟨v, rfl⟩, hJ⟩
    exact hend W hJ
  ·refine (back1 (2 - 1) (bb + 1) rb bz 0 zs.length (zs.length + js.length) zs (by omega) (λ k W => RJ G F (bb + 1) bb (lp26 fn a.tmps bb) r8 r12 qa la ka (zs.reverse.map (dop old)) (boxI rb (some ⟨bz, 0, none⟩) zs.length (zs.length + js.length) :: single bz (blk eI z (zs ++ js)) :: pca :: pcb :: L) k W) ?_ ?_ _ hJ0).mono ?_
   ·rintro k W ⟨h3, q, kk, co, hs, hO, f3⟩
    have h1 : h3 rb = some (.cells #[.slice (some ⟨bz, 0, none⟩) zs.length (zs.length + js.length)] 23 (0, 0)) := hO.sub (boxI rb (some ⟨bz, 0, none⟩) zs.length (zs.length + js.length)) (by simp) rb _ single_self
    have h2 : h3 bz = some (blk eI z (zs ++ js)) := hO.sub (single bz (blk eI z (zs ++ js))) (by simp) bz _ single_self
    have h1 := f3.own _ _ h1
    have h2 := f3.own _ _ h2
    refine ⟨by unfold World.cell?; simp [h1], λ j hj => ?_⟩
    unfold World.cell?
    simp only [h2, blk]
    rw [eI_F]
    simp [hj, List.getElem?_append_left]
   ·intro k W hJ hk
    exact chgRound g e8 e12 hra (by omega) hzm hJ hk
   ·rintro e W ⟨⟨v, rfl⟩, hJ⟩
    exact hend W hJ
end Go.Sl
set_option maxRecDepth 100000
namespace Go.Sl
open Go Go.Proofs
variable {G h : Heap} {L R : List Heap} {K : Value -> Heap -> Prop} {Kp : PK}
theorem revChanges {p : Option Addr} {y : Bk} {ps : PS} {cp : Heap} {a b : Int} (hO : Own G h L) [t : Take L cp R] (hq : PastP p y ps cp) (hde : y.done.length = y.edits.length) (hsm : y.edits.length <= 4000) (hfit : Fit y.done)
  (hnd : ∀ k, k <= y.done.length -> (replayD (y.done.take k)).Nodup) (hbn : ∀ k, k <= y.done.length -> ∀ x ∈ replayD (y.done.take k), (ps.born x).isSome)
  (hK1 : 0 <= a /\ a <= y.edits.length -> 0 <= b /\ b <= y.edits.length -> ∀ h' q l k c, Sli eOp q l k (chg (replayD (y.done.take a.toNat)) (replayD (y.done.take b.toNat))) c -> Own G h' (c :: L) -> K (.tuple #[.slice q l k, .int .i64 0]) h')
  (hK2 : ¬ ((0 <= a /\ a <= y.edits.length) /\ (0 <= b /\ b <= y.edits.length)) -> ∀ h', Own G h' L -> K (.tuple #[.slice none 0 0, .int .i64 180]) h') :
  CallF Tryz.prog G 26 #[.pointer p, .int .i64 a, .int .i64 b] K Kp h := by
 refine callF_of Tryz.func26 rfl rfl λ w F f => ?_
 refine (callsIn_wide (n := 2)).1 (callsIn_of_wp_marks (c := bd26) Tryz.func26 rfl trivial ?_)
 refine wpIn_wide.2 ?_
 have hlen := replayD_len y.done
 let old := replayD (y.done.take a.toNat)
 let now := replayD (y.done.take b.toNat)
 let Kn : Value -> Heap -> Prop := λ v h' => (0 <= a /\ a <= y.edits.length) /\ (0 <= b /\ b <= y.edits.length) /\ ∃ r8 qa la ka pca qb lb kb pcb r12 rb qz kz cz,
  v = .tuple #[.pointer p, .pointer (some ⟨r8, 0, none⟩), .slice qb lb kb, .pointer (some ⟨r12, 0, none⟩), .func (.func 57) #[] #[.pointer (some ⟨rb, 0, none⟩)]] /\
  Sli eElm qa la ka old pca /\ Sli eElm qb lb kb now pcb /\ Sli eI qz (pk old now).length kz (pk old now) cz /\
  Own G h' (boxI rb qz (pk old now).length kz :: cz :: boxO r12 none 0 0 :: boxE r8 qa la ka :: pca :: pcb :: L)
 have hS : S9026 G K (λ _ _ => False) p a b Kn h := chgA hO hq hde hsm hfit hnd hbn hK2 λ ha hb h' r8 qa la ka pca qb lb kb pcb r12 rb qz kz cz h1 h2 h3 h4 =>
  ⟨ha, hb, r8, qa, la, ka, pca, qb, lb, kb, pcb, r12, rb, qz, kz, cz, rfl, h1, h2, h3, h4⟩
 have hb := Bool.and_eq_true_iff.1 b9026
 refine vc_pre T9026 hmix (Qv := midQ [0, 8, 10, 12, 40] [6, 7] Kn K) (Kp := λ _ _ => False) ?_ 5 bd26 rfOk26 hb.1 hb.2 (Eq.mp vc9026 hS) (ag_enter (fn := Tryz.f26) rfl (by simp)) f ?_
 ·intro e a' w' hne hq'
  cases e with
  | normal => exact absurd rfl hne
  | ret =>
   obtain ⟨ρ', h', g', f', _, hk⟩ := hq'
   show LeavesInM _ _ _ _ _ _ a'.defers _ _
   rw [g'.defers]
   obtain ⟨v, hv, hk⟩ := results_run (P := Tryz.prog) (fn := Tryz.f26) (K := K) T9026 g' f' hk
   exact ⟨v, hv, h', hk, f'⟩
  | panic ch => obtain ⟨_, _, _, hk⟩ := hq'; exact hk.elim
  | outgrown => exact hq'.elim
  | exit id => obtain ⟨_, _, _, _, _, hk⟩ := hq'; exact hk.elim
  | goto l => obtain ⟨_, _, _, _, _, hk⟩ := hq'; exact hk.elim
 ·intro a' w' ρ' h' g' f' hn
  obtain ⟨ha, hb2, r8, qa, la, ka, pca, qb, lb, kb, pcb, r12, rb, qz, kz, cz, ev, hsa, hsb, hsz, hO'⟩ := hn
  have e0 : ρ' 0 = .pointer p := by simp at ev; exact ev.1
  have e8 : ρ' 8 = .pointer (some ⟨r8, 0, none⟩) := by simp at ev; exact ev.2.1
  have e10 : ρ' 10 = .slice qb lb kb := by simp at ev; exact ev.2.2.1
  have e12 : ρ' 12 = .pointer (some ⟨r12, 0, none⟩) := by simp at ev; exact ev.2.2.2.1
  have e40 : ρ' 40 = .func (.func 57) #[] #[.pointer (some ⟨rb, 0, none⟩)] := by simp at ev; exact ev.2.2.2.2
  have hla := hsa.len
  have hlb := hsb.len
  have h1 := hlen a.toNat
  have h2 := hlen b.toNat
  refine chgMid g' f' e0 e8 e10 e12 e40 hsa hsb hsz hO' hq (by simp only [hla, old]; omega) (by simp only [hlb, now]; omega) (hnd _ (by omega)) (hbn _ (by omega)) (λ h' q l k c hs hO => hK1 ha hb2 _ _ _ _ _ hs hO) λ v h' w' hk fr => ⟨h', hk, fr⟩
end Go.Sl
