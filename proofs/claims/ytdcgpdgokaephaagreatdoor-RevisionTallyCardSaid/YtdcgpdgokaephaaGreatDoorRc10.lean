/- RevisionTally: at every revision of a run's past what all clients put in is what was taken away and what still stands; of every list of plays; the seven listed package variables hold what the text lays. Part 10 of 11. -/
import Derived.RowKit
import Derived.RowKitTokens
import Derived.JoinedOf
import Derived.Stop.Joined
import Derived.SevenTiedAt
import Derived.ChangeVars
import Derived.Test.YtdcgpdgokaephaaGreatDoorCards
import Derived.Test.YtdcgpdgokaephaaGreatDoorTie
import Derived.Test.YtdcgpdgokaephaaGreatDoorRc9
set_option linter.unusedVariables false
set_option linter.unusedSimpArgs false
set_option linter.unusedSectionVars false
set_option maxRecDepth 100000
namespace Go.Proofs.YtdcgpdgokaephaaGreatDoor
open Go Go.Sl Go.ChangeShapes Go.WideShapes Go.RowKit
theorem seatOwn : ownKnob Tryz.prog.godebug = none := by kernel_rfl
theorem seatLaidOut : laidOutB Tryz.prog = true := by kernel_rfl
/-- The door's own heap meets the condition. -/
theorem door_met (os : Os) (args : Array Value) : laidMetH Tryz.prog laidL ((World.doorLaid Tryz.prog 600 os).forCall (fun _ _ => 0) ⟨#[], args, []⟩).memory :=
  laidMetH_of_parts3 (fuel := 8) (laidMet_of_run' 8 (by kernel_rfl) (by kernel_rfl)) (by kernel_rfl) (by kernel_rfl)
theorem plays_of {H : Type} {enc : TypeId × Value → H} {W : World} {v : Value} {d : DataW H} {p : List MemPlace} {r : Reach} {b : Nat} (hv : Value.okWide Tryz.prog W r b 22 v) (h : DataW.Trod enc Tryz.prog W 0 (fun _ => true) true 22 v d p) :
    ∃ pa l c xs, v = .slice pa l c ∧ RdA (Wh W) ePl pa l xs ∧ l ≤ 9223372036854775807 := by
  refine slice_of ePl_ok Tryz.underlying22 (by kernel_rfl) (fun n cs y hy => ?_) hv h
  obtain ⟨xs, n, _, _, hl, hn, hf⟩ := DataW.trod_struct Tryz.underlying90 hy
  rw [show Tryz.prog.cellsOf 90 = 4 by kernel_rfl] at hl
  match cs, hl with
  | [c0, c1, c2, c3], _ =>
    have one : ∀ (i : Nat) (f : Field) (c : Value), i < xs.length → (#[Field.mk "Kind" 3 0 false "" "" 0, Field.mk "Who" 3 1 false "" "" 8, Field.mk "At" 3 2 false "" "" 16, Field.mk "Ch" 3 3 false "" "" 24] : Array Field)[i]? = some f → f.type = 3 → ([c0, c1, c2, c3].drop f.offset).take 1 = [c] → ∃ z, c = .int .i64 z := fun i f c hi h1 h2 h3 => by
      have h4 := hf i f h1
      rw [h2, show Tryz.prog.cellsOf 3 = 1 by kernel_rfl, h3, List.getElem?_eq_getElem hi] at h4
      obtain ⟨z, h5, _⟩ := DataW.trod_int Tryz.underlying3 h4
      cases h5
      exact ⟨z, rfl⟩
    have hn4 : xs.length = 4 := hn
    obtain ⟨z0, rfl⟩ := one 0 _ c0 (by omega) rfl rfl rfl
    obtain ⟨z1, rfl⟩ := one 1 _ c1 (by omega) rfl rfl rfl
    obtain ⟨z2, rfl⟩ := one 2 _ c2 (by omega) rfl rfl rfl
    obtain ⟨z3, rfl⟩ := one 3 _ c3 (by omega) rfl rfl rfl
    exact ⟨(z0, z1, z2, z3), rfl⟩
end Go.Proofs.YtdcgpdgokaephaaGreatDoor
set_option maxRecDepth 100000
namespace Go.Sl
open Go Go.Proofs
/-- What can be read of a run, wherever it is owned. -/
structure RView (p : Option Addr) (s : Ru) (c : Heap) (r : Nat) (d : Option Addr) (dc1 : Option Addr) (dc3 : Nat) (dn1 : Option Addr) (dn3 : Nat) (en rv : Hdr) (hds : List Hdr) : Prop where
  hp : p = some ⟨r, 0, none⟩
  disk : ∀ {G h : Heap} {L : List Heap}, Own G h L → c ∈ L → hcell (rd G h) ⟨r, 0 + 3, none⟩ = some (.pointer d)
  docs : ∀ {G h : Heap} {L : List Heap}, Own G h L → c ∈ L → hcell (rd G h) ⟨r, 0 + 14, none⟩ = some (.slice dc1 (s.bk.done.length + 1) dc3)
  done : ∀ {G h : Heap} {L : List Heap}, Own G h L → c ∈ L → hcell (rd G h) ⟨r, 0 + 15, none⟩ = some (.slice dn1 s.bk.done.length dn3)
  ends : ∀ {G h : Heap} {L : List Heap}, Own G h L → c ∈ L → hcell (rd G h) ⟨r, 0 + 16, none⟩ = some (.slice en.1 en.2.1 en.2.2)
  revs : ∀ {G h : Heap} {L : List Heap}, Own G h L → c ∈ L → hcell (rd G h) ⟨r, 0 + 17, none⟩ = some (.slice rv.1 rv.2.1 rv.2.2)
  dl : ∀ {L : List Heap}, c ∈ L → Rdl L eDc dc1 (s.bk.done.length + 1) hds
  hl : hds.length = s.bk.done.length + 1
  dd : ∀ {k : Nat} {y : Hdr}, hds[k]? = some y → k ≤ s.bk.done.length → ∀ {L : List Heap}, c ∈ L → Rdl L eElm y.1 y.2.1 (replayD (s.bk.done.take k))
  el : ∀ {L : List Heap}, c ∈ L → Rdl L eI en.1 en.2.1 (endsI s.its)
  rl : ∀ {L : List Heap}, c ∈ L → Rdl L eI rv.1 rv.2.1 (revsI s.its)
theorem mem_perm {c : Heap} {L : List Heap} (h : c ∈ L) : ∃ R, (c :: R).Perm L := by
  obtain ⟨a, b, rfl⟩ := List.append_of_mem h
  exact ⟨a ++ b, List.perm_middle.symm⟩
theorem RunP.view {p : Option Addr} {s : Ru} {c : Heap} (hq : RunP p s c) : ∃ r d dc1 dc3 dn1 dn3 en rv hds, RView p s c r d dc1 dc3 dn1 dn3 en rv hds := by
  obtain ⟨d, b, r, C, M, dc, dn, en, rv, hds, dcs, cc, cm, cb, c1, c2, c3, c4, hp, hcl, hb, hm, hd1, hd2, hdn, hen, hrv, hj⟩ := hq
  obtain ⟨dn1, dn2, dn3⟩ := dn
  obtain ⟨dc1, dc2, dc3⟩ := dc
  simp only at hdn hd1
  have e3 := hdn.len
  have e4 := hd1.len
  have e5 := hd2.l1
  have e6 := hd2.l2
  rw [docsOf_len] at e5 e6
  rw [e5] at e4
  subst e3
  subst e4
  have op : ∀ {G h : Heap} {L R : List Heap}, Own G h L → (c :: R).Perm L → Own G h (single r (ruB C d b M (fun i => s.has i) (fun i => s.down i) (dc1, s.bk.done.length + 1, dc3) (dn1, s.bk.done.length, dn3) en rv s.boots) :: cb :: cc 0 :: cc 1 :: cc 2 :: cm 0 :: cm 1 :: cm 2 :: c1 :: c2 :: c3 :: c4 :: (dcs ++ R)) := fun hO hR => (hO.perm hR.symm.symm).openJ hj |> fun h => h
  refine ⟨r, d, dc1, dc3, dn1, dn3, en, rv, hds, hp, ?_, ?_, ?_, ?_, ?_, ?_, e5, ?_, ?_, ?_⟩
  · intro G h L hO hc; obtain ⟨R, hR⟩ := mem_perm hc; exact hcell_own (op hO hR) inferInstance (by with_unfolding_all rfl)
  · intro G h L hO hc; obtain ⟨R, hR⟩ := mem_perm hc; exact hcell_own (op hO hR) inferInstance (by with_unfolding_all rfl)
  · intro G h L hO hc; obtain ⟨R, hR⟩ := mem_perm hc; exact hcell_own (op hO hR) inferInstance (by with_unfolding_all rfl)
  · intro G h L hO hc; obtain ⟨R, hR⟩ := mem_perm hc; exact hcell_own (op hO hR) inferInstance (by with_unfolding_all rfl)
  · intro G h L hO hc; obtain ⟨R, hR⟩ := mem_perm hc; exact hcell_own (op hO hR) inferInstance (by with_unfolding_all rfl)
  · intro L hc G h hO
    obtain ⟨R, hR⟩ := mem_perm hc
    exact (hd1.rdO (op hO hR) (by simp)) _ _ (op hO hR)
  · intro k y hy hk L hc G h hO
    obtain ⟨R, hR⟩ := mem_perm hc
    have hcc : dcs[k]? = some (dcs[k]'(by omega)) := List.getElem?_eq_getElem _
    exact hd2.rd k y _ _ hy (docsOf_get hk) hcc _ (by simp [List.getElem_mem]) _ _ (op hO hR)
  · intro L hc G h hO
    obtain ⟨R, hR⟩ := mem_perm hc
    exact (hen.rdO (op hO hR) (by simp)) _ _ (op hO hR)
  · intro L hc G h hO
    obtain ⟨R, hR⟩ := mem_perm hc
    exact (hrv.rdO (op hO hR) (by simp)) _ _ (op hO hR)
/-- One text of a run, read. -/
theorem RView.doc {p : Option Addr} {s : Ru} {c : Heap} {r : Nat} {d dc1 : Option Addr} {dc3 : Nat} {dn1 : Option Addr} {dn3 : Nat} {en rv : Hdr} {hds : List Hdr} (v : RView p s c r d dc1 dc3 dn1 dn3 en rv hds) {k : Nat} (hk : k ≤ s.bk.done.length) {G0 h0 : Heap} {L0 : List Heap} (hO0 : Own G0 h0 L0) (hc0 : c ∈ L0) :
    ∃ y : Hdr, y.2.1 = (replayD (s.bk.done.take k)).length ∧ (∀ {L : List Heap}, c ∈ L → Rdl L eElm y.1 y.2.1 (replayD (s.bk.done.take k))) ∧
      ∀ {G h : Heap} {L : List Heap}, Own G h L → c ∈ L → ∀ K, (∀ a, dc1 = some a → hcell (rd G h) (a.add (k * 1)) = some (.slice y.1 y.2.1 y.2.2) → K a) → NN dc1 K := by
  have hl := v.hl
  have hy : hds[k]? = some (hds[k]'(by omega)) := List.getElem?_eq_getElem _
  generalize hds[k]'(by omega) = y at hy
  refine ⟨y, ?_, v.dd hy hk, fun {G h L} hO hc K hK => ?_⟩
  · exact (v.dd hy hk hc0).len hO0
  · obtain ⟨y2, hy2, hn'⟩ := (v.dl hc).at eDc_ok hO (i := (k : Int)) (by omega) (by omega)
    rw [Int.toNat_natCast] at hy2 hn'
    rw [hy] at hy2
    cases hy2
    exact hn' K fun a ha hcell => hK a ha (hcell 0 _ rfl)
end Go.Sl
set_option maxRecDepth 100000
namespace Go.Sl
open Go Go.Proofs
def tP (c : Int) (l : List Op) : Nat := l.countP fun o => (o.client == c) && (o.kind == 1)
def tT (c : Int) (l : List Op) : Nat := l.countP fun o => (o.client == c) && (o.kind == 2)
def tS (c : Int) (d : List Elm) : Nat := d.countP fun e => e.client == c
theorem tP_le (c : Int) (l : List Op) : tP c l ≤ l.length := List.countP_le_length
theorem tT_le (c : Int) (l : List Op) : tT c l ≤ l.length := List.countP_le_length
theorem tS_le (c : Int) (d : List Elm) : tS c d ≤ d.length := List.countP_le_length
theorem tP_snoc (c : Int) (l : List Op) (o : Op) : tP c (l ++ [o]) = tP c l + if (o.client == c) && (o.kind == 1) then 1 else 0 := by
  unfold tP; rw [List.countP_append, List.countP_singleton]
theorem tT_snoc (c : Int) (l : List Op) (o : Op) : tT c (l ++ [o]) = tT c l + if (o.client == c) && (o.kind == 2) then 1 else 0 := by
  unfold tT; rw [List.countP_append, List.countP_singleton]
theorem tS_take (c : Int) {d : List Elm} {n : Nat} {e : Elm} (h : d[n]? = some e) : tS c (d.take (n + 1)) = tS c (d.take n) + if e.client == c then 1 else 0 := by
  unfold tS; rw [List.take_add_one, h, Option.toList_some, List.countP_append, List.countP_singleton]
/-- A record of the past. -/
theorem pastDone {G h : Heap} {L R : List Heap} {p : Option Addr} {y : Bk} {ps : PS} {c : Heap} {i : Int} {o : Op} {K : Value → Heap → Prop} {Kp : PK} (hO : Own G h L) [t : Take L c R] (hq : PastP p y ps c) (hr : 1 ≤ i ∧ i ≤ y.edits.length) (hde : y.done.length = y.edits.length) (hsm : y.edits.length ≤ 4000) (ho : y.done[(i - 1).toNat]? = some o)
    (hK : ∀ h', Own G h' L → K (.tuple #[opV o, .int .i64 0]) h') : NN p fun a => LdP G h a fun q => CallF Tryz.prog G 35 #[.pointer q, .int .i64 i] K Kp h := by
  obtain ⟨b, pb, d, pls, n, cb, m1, k1, e1, m2, k2, e2', rfl, hb, hb1, hb2, hj⟩ := hq
  (have hO := (hO.perm t.perm).openJ hj; simp only [List.cons_append, List.nil_append] at hO)
  refine NN.go (LdP.go hO (by with_unfolding_all rfl) ?_)
  refine bookDone (o := o) hO hb hr hde hsm ho fun h hO => hK _ ?_
  exact Own.reclose hj (L := L) (R := R) t.perm (by (refine hO.sp fun a => ?_; simp only [cnt_app, List.append_eq, cnt_cons, cnt_nil]; omega))
theorem pastTally {G h : Heap} {L R : List Heap} {p : Option Addr} {y : Bk} {ps : PS} {cp : Heap} {c r : Int} {K : Value → Heap → Prop} {Kp : PK} (hO : Own G h L) [t : Take L cp R] (hq : PastP p y ps cp) (hde : y.done.length = y.edits.length) (hsm : y.edits.length ≤ 4000) (hfit : Fit y.done)
    (hK1 : (0 ≤ r ∧ r ≤ y.edits.length) → ∀ h', Own G h' L → K (.tuple #[.int .i64 (tP c (y.done.take r.toNat)), .int .i64 (tT c (y.done.take r.toNat)), .int .i64 (tS c (replayD (y.done.take r.toNat))), .int .i64 0]) h')
    (hK2 : ¬ (0 ≤ r ∧ r ≤ y.edits.length) → ∀ h', Own G h' L → K (.tuple #[.int .i64 0, .int .i64 0, .int .i64 0, .int .i64 180]) h') : CallF Tryz.prog G 24 #[.pointer p, .int .i64 c, .int .i64 r] K Kp h := by
  refine S24_ok ?_
  unfold S24
  have stand : ∀ {q : Option Addr} {l : Nat} {d : List Elm} {M : List Heap} {h : Heap} {e a b : Int}, Own G h (M ++ L) → Rdl (M ++ L) eElm q l d → l ≤ 100000 → (∀ h', Own G h' L → K (.tuple #[.int .i64 a, .int .i64 b, .int .i64 (tS c d), .int .i64 e]) h') →
      S24_k3 G K Kp l q c a b e h := fun {q l d M h e a b} hO hr hsm hK => by
    unfold S24_k3
    have hl := hr.len hO
    refine LoopS.go (fun vs h' => ∃ (n : Nat), n ≤ l ∧ vs = [.int .i64 (tS c (d.take n)), .int .i64 n] ∧ Own G h' (M ++ L)) (fun vs _ => match vs with | [_, .int _ n] => (l - n).toNat | _ => 0) ⟨0, by omega, rfl, hO⟩ ?_
    clear hO
    rintro jv vs h ⟨n, hn, rfl, hO⟩
    unfold S24_l14
    have hts := tS_le c (d.take n)
    rw [List.length_take] at hts
    refine ⟨_, _, rfl, If.dec (fun hlt => ?_) (fun hlt => ?_)⟩
    · refine Rq.go ⟨by omega, hlt⟩ ?_
      obtain ⟨x, hx, hn'⟩ := hr.at eElm_ok hO (i := (n : Int)) (by omega) hlt
      have hx' : d[n]? = some x := by simpa using hx
      refine hn' _ fun a _ hc => ?_
      refine LdI.i (hc 0 _ rfl) (LdI.i (hc 1 _ rfl) (LdI.i (hc 2 _ rfl) ?_))
      refine newK.go hO ?_
      clear hO; intro r18 h hO
      (repeat (first | with_reducible refine NN.go ?_ | with_reducible refine LdI.go hO (by with_unfolding_all rfl) ?_ | with_reducible refine LdSl.go hO (by with_unfolding_all rfl) ?_ | with_reducible refine LdP.go hO (by with_unfolding_all rfl) ?_ | with_reducible refine LdM.go hO (by with_unfolding_all rfl) ?_ | with_reducible refine LdB.go hO (by with_unfolding_all rfl) ?_ | with_reducible refine cell_go hO (by with_unfolding_all rfl) ?_ | with_reducible refine Rq.go (by omega) ?_ | with_reducible refine Rng.go (by omega) ?_ | (with_reducible refine st1.go hO (by with_unfolding_all rfl) ?_; clear hO; intro h hO; dsimp only [ad, List.set] at hO)))
      have hst := tS_take c hx'
      unfold S24_k4
      refine If.mk (fun e => ?_) (fun e => ?_)
      · rw [e, if_pos rfl] at hst
        refine Rng.go (by omega) (Rng.go (by omega) ⟨⟨n + 1, by omega, ?_, hO.drop1⟩, by simp only; omega⟩)
        rw [hst]; rfl
      · rw [e] at hst
        refine Rng.go (by omega) ⟨⟨n + 1, by omega, ?_, hO.drop1⟩, by simp only; omega⟩
        rw [hst]; rfl
    · have hnl : n = d.length := by omega
      subst hnl
      rw [List.take_length]
      unfold S24_k5
      exact hK _ (hO.sp fun a => by simp only [cnt_app]; omega)
  refine pastText hO hq hde hsm hfit (fun hr h p' l' c' pc hs hO => ⟨_, _, _, _, rfl, ?_⟩) (fun hr => ⟨_, _, _, _, rfl, ?_⟩)
  · have hl := hs.len
    have hrl := replayD_len (y.done.take r.toNat) (y.done.take r.toNat).length
    rw [List.take_length, List.length_take] at hrl
    refine LoopS.go (fun vs h' => ∃ (n : Nat), (n : Int) ≤ r ∧ vs = [.int .i64 (tP c (y.done.take n)), .int .i64 (tT c (y.done.take n)), .int .i64 ((n + 1 : Nat) : Int)] ∧ Own G h' (pc :: L)) (fun vs _ => match vs with | [_, _, .int _ n] => (r + 1 - n).toNat | _ => 0) ⟨0, by omega, rfl, hO⟩ ?_
    clear hO
    rintro jv vs h ⟨n, hn, rfl, hO⟩
    unfold S24_l4
    have h1 := tP_le c (y.done.take n)
    have h2 := tT_le c (y.done.take n)
    rw [List.length_take] at h1 h2
    refine ⟨_, _, _, rfl, If.dec (fun hlt => ?_) (fun hlt => ?_)⟩
    · have hnl : n < y.done.length := by omega
      have ho : y.done[n]? = some (y.done[n]'hnl) := List.getElem?_eq_getElem _
      generalize y.done[n]'hnl = o at ho
      have htk := take_snoc ho
      have e1 := tP_snoc c (y.done.take n) o
      have e2 := tT_snoc c (y.done.take n) o
      unfold S24_k1
      refine If.t rfl ?_
      refine pastDone (o := o) (R := pc :: R) (t := ⟨(List.Perm.swap _ _ _).trans (t.perm.cons _)⟩) hO hq (by omega) hde hsm (by rw [show ((((n + 1 : Nat) : Int)) - 1).toNat = n by omega]; exact ho) fun h hO => ⟨_, _, _, _, _, _, rfl, ?_⟩
      refine newK.go hO ?_
      clear hO; intro r23 h hO
      (repeat (first | with_reducible refine NN.go ?_ | with_reducible refine LdI.go hO (by with_unfolding_all rfl) ?_ | with_reducible refine LdSl.go hO (by with_unfolding_all rfl) ?_ | with_reducible refine LdP.go hO (by with_unfolding_all rfl) ?_ | with_reducible refine LdM.go hO (by with_unfolding_all rfl) ?_ | with_reducible refine LdB.go hO (by with_unfolding_all rfl) ?_ | with_reducible refine cell_go hO (by with_unfolding_all rfl) ?_ | with_reducible refine Rq.go (by omega) ?_ | with_reducible refine Rng.go (by omega) ?_ | (with_reducible refine st1.go hO (by with_unfolding_all rfl) ?_; clear hO; intro h hO; dsimp only [ad, List.set] at hO)))
      have nx : ∀ (a b : Int), a = tP c (y.done.take (n + 1)) → b = tT c (y.done.take (n + 1)) → S24_k2 G K Kp ((n + 1 : Nat) : Int) (fun vs' h' => (∃ (n : Nat), (n : Int) ≤ r ∧ vs' = [.int .i64 (tP c (y.done.take n)), .int .i64 (tT c (y.done.take n)), .int .i64 ((n + 1 : Nat) : Int)] ∧ Own G h' (pc :: L)) ∧ (match vs' with | [_, _, .int _ n] => (r + 1 - n).toNat | _ => 0) < (r + 1 - ((n + 1 : Nat) : Int)).toNat) a b h := fun a b ha hb => by
        unfold S24_k2
        refine Rng.go (by omega) ⟨⟨n + 1, by omega, ?_, hO.drop1⟩, by simp only; omega⟩
        rw [ha, hb]; rfl
      refine If.mk (fun e => ?_) (fun e => ?_)
      · have hne : (o.client == c) = false := by simpa using e
        exact nx _ _ (by rw [htk, e1, hne]; simp) (by rw [htk, e2, hne]; simp)
      · have heq : (o.client == c) = true := by simpa using e
        (repeat (first | with_reducible refine NN.go ?_ | with_reducible refine LdI.go hO (by with_unfolding_all rfl) ?_ | with_reducible refine LdSl.go hO (by with_unfolding_all rfl) ?_ | with_reducible refine LdP.go hO (by with_unfolding_all rfl) ?_ | with_reducible refine LdM.go hO (by with_unfolding_all rfl) ?_ | with_reducible refine LdB.go hO (by with_unfolding_all rfl) ?_ | with_reducible refine cell_go hO (by with_unfolding_all rfl) ?_ | with_reducible refine Rq.go (by omega) ?_ | with_reducible refine Rng.go (by omega) ?_ | (with_reducible refine st1.go hO (by with_unfolding_all rfl) ?_; clear hO; intro h hO; dsimp only [ad, List.set] at hO)))
        refine If.mk (fun k1 => ?_) (fun k1 => ?_)
        · refine Rng.go (by omega) (nx _ _ (by rw [htk, e1, heq, k1]; simp) (by rw [htk, e2, heq]; have : o.kind = 1 := by simpa using k1
                                                                                simp [this]))
        · refine If.mk (fun k2 => ?_) (fun k2 => ?_)
          · refine Rng.go (by omega) (nx _ _ (by rw [htk, e1, heq, k1]; simp) (by rw [htk, e2, heq, k2]; simp))
          · exact nx _ _ (by rw [htk, e1, heq, k1]; simp) (by rw [htk, e2, heq, k2]; simp)
    · have hnr : n = r.toNat := by omega
      subst hnr
      unfold S24_k1
      exact If.f rfl (stand (M := [pc]) hO (hs.rdO hO (by simp)) (by omega) (hK1 hr))
  · refine LoopS.go (fun vs h' => ∃ (n : Int), vs = [.int .i64 0, .int .i64 0, .int .i64 n] ∧ Own G h' L) (fun _ _ => 0) ⟨1, rfl, hO⟩ ?_
    clear hO
    rintro jv vs h ⟨n, rfl, hO⟩
    unfold S24_l4
    have fin : S24_k1 G K Kp p n c 0 0 (fun vs' h' => (∃ (n : Int), vs' = [.int .i64 0, .int .i64 0, .int .i64 n] ∧ Own G h' L) ∧ 0 < 0) 0 none 180 false h := by
      unfold S24_k1
      exact If.f rfl (stand (M := []) (d := []) hO (Rdl.nil _ _) (by omega) (hK2 hr))
    exact ⟨_, _, _, rfl, If.mk (fun _ => fin) (fun _ => fin)⟩
end Go.Sl
set_option maxRecDepth 100000
namespace Go.Sl
open Go Go.Proofs
theorem tS_ins (c : Int) (d : List Elm) (p : Nat) (x : Elm) : tS c (insL p x d) = tS c d + if x.client == c then 1 else 0 := by
  have h : d = d.take p ++ d.drop p := (List.take_append_drop p d).symm
  unfold insL tS
  rw [List.countP_append, List.countP_append, List.countP_singleton]
  conv => rhs; rw [h, List.countP_append]
  omega
theorem tS_del (c : Int) (d : List Elm) (p : Nat) (hp : p < d.length) : tS c (delL p d) + (if (d[p]'hp).client == c then 1 else 0) = tS c d := by
  have h : d = d.take p ++ (d[p]'hp :: d.drop (p + 1)) := by rw [← List.drop_eq_getElem_cons hp, List.take_append_drop]
  unfold delL tS
  rw [List.countP_append]
  conv => rhs; rw [h, List.countP_append, List.countP_cons]
  omega
theorem tS_sum {d : List Elm} (h : ∀ e ∈ d, 1 ≤ e.client ∧ e.client ≤ 3) : tS 1 d + tS 2 d + tS 3 d = d.length := by
  induction d with
  | nil => rfl
  | cons e d ih =>
    have h1 := h e (by simp)
    have h2 := ih fun x hx => h x (by simp [hx])
    unfold tS at h2 ⊢
    simp only [List.countP_cons, List.length_cons, beq_iff_eq]
    have : e.client = 1 ∨ e.client = 2 ∨ e.client = 3 := by omega
    rcases this with h3 | h3 | h3 <;> simp [h3] <;> omega
/-- What the numbers of a past come to. -/
structure TalOk (D : List Op) : Prop where
  le : ∀ c, tS c (replayD D) ≤ tP c D
  el : ∀ e ∈ replayD D, 1 ≤ e.client ∧ e.client ≤ 3
  sum : tP 1 D + tP 2 D + tP 3 D = (tT 1 D + tT 2 D + tT 3 D) + (replayD D).length
def tallB (D : List Op) : Nat := (tP 1 D + tP 2 D + tP 3 D) + (tT 1 D + tT 2 D + tT 3 D)
theorem mem_ins {d : List Elm} {p : Nat} {x e : Elm} (h : e ∈ insL p x d) : e = x ∨ e ∈ d := by
  unfold insL at h
  rcases List.mem_append.1 h with h | h
  · rcases List.mem_append.1 h with h | h
    · exact .inr (List.mem_of_mem_take h)
    · exact .inl (List.mem_singleton.1 h)
  · exact .inr (List.mem_of_mem_drop h)
theorem mem_del {d : List Elm} {p : Nat} {e : Elm} (h : e ∈ delL p d) : e ∈ d := by
  unfold delL at h
  rcases List.mem_append.1 h with h | h
  · exact List.mem_of_mem_take h
  · exact List.mem_of_mem_drop h
theorem TalOk.snoc {D : List Op} {o : Op} (h : TalOk D) (hf : FitP (replayD D).length o) (hc : 1 ≤ o.client ∧ o.client ≤ 3) : TalOk (D ++ [o]) ∧ tallB (D ++ [o]) = tallB D + if (replayD (D ++ [o])).length ≠ (replayD D).length then 1 else 0 := by
  obtain ⟨h1, h2, h3⟩ := h
  have hlen := hf.len
  unfold gr at hlen
  have ho : o.client = 1 ∨ o.client = 2 ∨ o.client = 3 := by omega
  have p1 := tP_snoc 1 D o
  have p2 := tP_snoc 2 D o
  have p3 := tP_snoc 3 D o
  have t1 := tT_snoc 1 D o
  have t2 := tT_snoc 2 D o
  have t3 := tT_snoc 3 D o
  rcases hf.k with ⟨k, hk⟩ | ⟨k, hk⟩ | ⟨k, hk⟩
  · rw [k] at hlen
    have hr : replayD (D ++ [o]) = replayD D := by rw [replayD_snoc, app0 k]
    simp only [k] at p1 p2 p3 t1 t2 t3
    simp at p1 p2 p3 t1 t2 t3
    refine ⟨⟨fun c => ?_, by rw [hr]; exact h2, by rw [hr, p1, p2, p3, t1, t2, t3]; exact h3⟩, ?_⟩
    · rw [hr, tP_snoc]; have := h1 c; omega
    · rw [hr, if_neg (by simp)]; unfold tallB; rw [p1, p2, p3, t1, t2, t3]; rfl
  · rw [k] at hlen
    have hr : replayD (D ++ [o]) = insL o.pos.toNat ⟨o.ch, o.client, o.seq⟩ (replayD D) := by rw [replayD_snoc, app1 k]
    have hl : (replayD (D ++ [o])).length = (replayD D).length + 1 := by rw [hr, insL_len (by omega)]
    simp only [k] at p1 p2 p3 t1 t2 t3
    refine ⟨⟨fun c => ?_, ?_, ?_⟩, ?_⟩
    · rw [hr, tS_ins, tP_snoc, k]
      have := h1 c
      by_cases e : (o.client == c) = true
      · simp [e]; omega
      · simp [e]; omega
    · rw [hr]
      intro e he
      rcases mem_ins he with rfl | he
      · exact hc
      · exact h2 e he
    · rw [hl, p1, p2, p3, t1, t2, t3]
      rcases ho with e | e | e <;> simp [e] <;> omega
    · rw [hl, if_pos (by omega)]; unfold tallB; rw [p1, p2, p3, t1, t2, t3]
      rcases ho with e | e | e <;> simp [e] <;> omega
  · rw [k] at hlen
    have hp : o.pos.toNat < (replayD D).length := by omega
    have hr : replayD (D ++ [o]) = delL o.pos.toNat (replayD D) := by rw [replayD_snoc, app2 k]
    have hl : (replayD (D ++ [o])).length + 1 = (replayD D).length := by rw [hr, delL_len hp]; omega
    simp only [k] at p1 p2 p3 t1 t2 t3
    refine ⟨⟨fun c => ?_, ?_, ?_⟩, ?_⟩
    · rw [hr, tP_snoc]
      have := h1 c
      have := tS_del c (replayD D) _ hp
      omega
    · rw [hr]
      intro e he
      exact h2 e (mem_del he)
    · rw [p1, p2, p3, t1, t2, t3]
      rcases ho with e | e | e <;> simp [e] <;> omega
    · rw [if_pos (by omega)]; unfold tallB; rw [p1, p2, p3, t1, t2, t3]
      rcases ho with e | e | e <;> simp [e] <;> omega
theorem talOk {D : List Op} (hf : FitL [] D) (hc : ∀ o ∈ D, 1 ≤ o.client ∧ o.client ≤ 3) : ∀ k, k ≤ D.length → TalOk (D.take k) := by
  intro k
  induction k with
  | zero => intro _; exact ⟨fun c => Nat.le_refl _, fun e he => (by cases he), rfl⟩
  | succ k ih =>
    intro hk
    have ho : D[k]? = some (D[k]'(by omega)) := List.getElem?_eq_getElem _
    rw [take_snoc ho]
    exact ((ih (by omega)).snoc (hf.at ho) (hc _ (List.mem_of_getElem? ho))).1
theorem talB {D : List Op} (hf : FitL [] D) (hc : ∀ o ∈ D, 1 ≤ o.client ∧ o.client ≤ 3) {k : Nat} (hk : k < D.length) : tallB (D.take (k + 1)) = tallB (D.take k) + if (replayD (D.take (k + 1))).length ≠ (replayD (D.take k)).length then 1 else 0 := by
  have ho : D[k]? = some (D[k]'hk) := List.getElem?_eq_getElem _
  rw [take_snoc ho]
  exact ((talOk hf hc k (by omega)).snoc (hf.at ho) (hc _ (List.mem_of_getElem? ho))).2
theorem tallB_le (D : List Op) (k : Nat) : tP 1 (D.take k) ≤ k ∧ tP 2 (D.take k) ≤ k ∧ tP 3 (D.take k) ≤ k ∧ tT 1 (D.take k) ≤ k ∧ tT 2 (D.take k) ≤ k ∧ tT 3 (D.take k) ≤ k := by
  have h1 := tP_le 1 (D.take k)
  have h2 := tP_le 2 (D.take k)
  have h3 := tP_le 3 (D.take k)
  have h4 := tT_le 1 (D.take k)
  have h5 := tT_le 2 (D.take k)
  have h6 := tT_le 3 (D.take k)
  rw [List.length_take] at h1 h2 h3 h4 h5 h6
  omega
def sm (f : Int → Nat) (c : Nat) : Nat := match c with
  | 0 => 0
  | 1 => f 1
  | 2 => f 1 + f 2
  | _ => f 1 + f 2 + f 3
theorem sm_succ (f : Int → Nat) {c : Nat} (h : c < 3) : sm f (c + 1) = sm f c + f ((c + 1 : Nat) : Int) := by
  have : c = 0 ∨ c = 1 ∨ c = 2 := by omega
  rcases this with rfl | rfl | rfl
  · show f 1 = 0 + f 1; omega
  · rfl
  · rfl
end Go.Sl
set_option maxRecDepth 100000
namespace Go.Sl
open Go Go.Proofs
def bef (D : List Op) (n : Nat) : Nat := match n with
  | 0 => 0
  | n + 1 => tallB (D.take n)
theorem lawRevTally {G h : Heap} {L : List Heap} {pa : Option Addr} {l c : Nat} {xs : List Pl4} {K : Value → Heap → Prop} {Kp : PK} (hT : Gt G) (hg : Gl G) (hw : Gw G) (hO : Own G h L) (hr : RdA G ePl pa l xs) (hsm : l ≤ 9223372036854775807)
    (hK : ∀ h', Own G h' L → K (.bool true) h') :
    CallF Tryz.prog G 7 #[.slice pa l c] K Kp h := by
  refine S7_ok ?_
  unfold S7
  refine lawRan rinvs hT hg hw hO hr hsm fun h p p2 s c1 c2 hs hq hp2 hpq hO => ⟨_, _, _, rfl, If.f rfl ?_⟩
  have hde := rinvs.de s hs
  have hed := rinvs.ed s hs
  have hfit := rinvs.fit s hs
  have tok := talOk hs.b.fitl hs.b.cl
  have tob : ∀ {k : Nat}, k < s.bk.done.length → _ := fun {k} hk => talB hs.b.fitl hs.b.cl (k := k) hk
  obtain ⟨r, d, dc1, dc3, dn1, dn3, en, rv, hds, v⟩ := hq.view
  obtain rfl := v.hp
  refine LoopS.go (fun vs h' => ∃ (n : Nat), n ≤ s.bk.done.length + 1 ∧ vs = [.int .i64 (bef s.bk.done n), .int .i64 n] ∧ Own G h' (c2 :: c1 :: L)) (fun vs _ => match vs with | [_, .int _ n] => (s.bk.done.length + 1 - n).toNat | _ => 0) ⟨0, by omega, rfl, hO⟩ ?_
  clear hO
  rintro jv vs h ⟨n, hn, rfl, hO⟩
  unfold S7_l6
  refine ⟨_, _, rfl, NN.go (LdSl.i (v.docs hO (by simp)) (If.dec (fun hlt => ?_) (fun hlt => ?_)))⟩
  · have hn2 : n ≤ s.bk.done.length := by omega
    obtain ⟨y, hyl, hyd, hyc⟩ := v.doc hn2 hO (by simp)
    have hDl := replayD_len s.bk.done n
    have hto := tok n hn2
    have hle := tallB_le s.bk.done n
    have hsu := tS_sum hto.el
    generalize hD : replayD (s.bk.done.take n) = D at *
    refine LoopS.go (fun vs h' => ∃ (i : Nat), i ≤ 3 ∧ vs = [.int .i64 (sm (fun c => tP c (s.bk.done.take n)) i), .int .i64 (sm (fun c => tT c (s.bk.done.take n)) i), .int .i64 (sm (fun c => tS c D) i), .int .i64 ((i + 1 : Nat) : Int)] ∧ Own G h' (c2 :: c1 :: L)) (fun vs _ => match vs with | [_, _, _, .int _ n] => (4 - n).toNat | _ => 0) ⟨0, by omega, rfl, hO⟩ ?_
    clear hO
    rintro jv vs h ⟨i, hi, rfl, hO⟩
    unfold S7_l10
    refine ⟨_, _, _, _, rfl, If.dec (fun hilt => ?_) (fun hilt => ?_)⟩
    · have hi2 : i < 3 := by omega
      have s1 := sm_succ (fun c => tP c (s.bk.done.take n)) hi2
      have s2 := sm_succ (fun c => tT c (s.bk.done.take n)) hi2
      have s3 := sm_succ (fun c => tS c D) hi2
      have q1 := tP_le ((i + 1 : Nat) : Int) (s.bk.done.take n)
      have q2 := tT_le ((i + 1 : Nat) : Int) (s.bk.done.take n)
      have q3 := tS_le ((i + 1 : Nat) : Int) D
      have qb : ∀ (f : Int → Nat), (∀ c, f c ≤ 4000) → sm f i ≤ 12000 := fun f hf => by
        have a1 := hf 1
        have a2 := hf 2
        have a3 := hf 3
        unfold sm
        split <;> omega
      have b1 := qb (fun c => tP c (s.bk.done.take n)) fun c => by have := tP_le c (s.bk.done.take n); rw [List.length_take] at this; omega
      have b2 := qb (fun c => tT c (s.bk.done.take n)) fun c => by have := tT_le c (s.bk.done.take n); rw [List.length_take] at this; omega
      have b3 := qb (fun c => tS c D) fun c => by have := tS_le c D; omega
      rw [List.length_take] at q1 q2
      have hzx := hto.le ((i + 1 : Nat) : Int)
      rw [hD] at hzx
      refine pastTally (c := ((i + 1 : Nat) : Int)) (r := (n : Int)) hO hpq hde hed hfit (fun _ h hO => ⟨_, _, _, _, rfl, ?_⟩) (fun e => absurd ⟨by omega, by omega⟩ e)
      rw [Int.toNat_natCast, hD]
      refine lawNum ⟨_, rfl, If.f rfl ?_⟩
      refine If.dec (fun e => by omega) fun _ => If.dec (fun e => by omega) fun _ => If.dec (fun e => by omega) fun _ => ?_
      unfold S7_k1
      refine If.dec (fun e => by omega) fun _ => ?_
      refine LoopS.go (fun vs h' => ∃ (j : Nat), j ≤ D.length ∧ vs = [.int .i64 (tS ((i + 1 : Nat) : Int) (D.take j)), .int .i64 j] ∧ Own G h' (c2 :: c1 :: L)) (fun vs _ => match vs with | [_, .int _ n] => (D.length - n).toNat | _ => 0) ⟨0, by omega, rfl, hO⟩ ?_
      clear hO
      rintro jv vs h ⟨j, hj, rfl, hO⟩
      unfold S7_l17
      refine ⟨_, _, rfl, NN.go (LdSl.i (v.docs hO (by simp)) (Rq.go (by omega) ?_))⟩
      rw [Int.toNat_natCast]
      refine hyc hO (by simp) _ fun a _ hcell => LdSl.i hcell ?_
      have hts := tS_le ((i + 1 : Nat) : Int) (D.take j)
      rw [List.length_take] at hts
      refine If.dec (fun hjlt => ?_) (fun hjlt => ?_)
      · refine NN.go (LdSl.i (v.docs hO (by simp)) (Rq.go (by omega) ?_))
        refine hyc hO (by simp) _ fun a _ hcell => LdSl.i hcell ?_
        refine Rq.go (by omega) ?_
        obtain ⟨e, he, hn'⟩ := (hyd (L := c2 :: c1 :: L) (by simp)).at eElm_ok hO (i := (j : Int)) (by omega) (by omega)
        rw [Int.toNat_natCast] at he hn'
        rw [Int.toNat_natCast]
        refine hn' _ fun a _ hc => LdI.i (hc 1 _ rfl) ?_
        have hst := tS_take ((i + 1 : Nat) : Int) he
        unfold S7_k2
        refine If.mk (fun e2 => ?_) (fun e2 => ?_)
        · rw [e2, if_pos rfl] at hst
          refine Rng.go (by omega) (Rng.go (by omega) ⟨⟨j + 1, by omega, ?_, hO⟩, by simp only; omega⟩)
          rw [hst]; rfl
        · rw [e2] at hst
          refine Rng.go (by omega) ⟨⟨j + 1, by omega, ?_, hO⟩, by simp only; omega⟩
          rw [hst]; rfl
      · have hjl : j = D.length := by omega
        subst hjl
        rw [List.take_length]
        unfold S7_k3
        refine If.f (by simp) (Rng.go (by omega) (Rng.go (by omega) (Rng.go (by omega) (Rng.go (by omega) ⟨⟨i + 1, by omega, ?_, hO⟩, by simp only; omega⟩))))
        rw [s1, s2, s3]; rfl
    · have hi3 : i = 3 := by omega
      subst hi3
      unfold S7_k4
      have hsum := hto.sum
      rw [hD] at hsum
      have e1 : sm (fun c => tP c (s.bk.done.take n)) 3 = tP 1 (s.bk.done.take n) + tP 2 (s.bk.done.take n) + tP 3 (s.bk.done.take n) := rfl
      have e2 : sm (fun c => tT c (s.bk.done.take n)) 3 = tT 1 (s.bk.done.take n) + tT 2 (s.bk.done.take n) + tT 3 (s.bk.done.take n) := rfl
      have e3 : sm (fun c => tS c D) 3 = tS 1 D + tS 2 D + tS 3 D := rfl
      rw [e1, e2, e3, hsu]
      refine Rng.go (by omega) (If.f (by simp; omega) ?_)
      refine NN.go (LdSl.i (v.docs hO (by simp)) (Rq.go (by omega) ?_))
      rw [Int.toNat_natCast]
      refine hyc hO (by simp) _ fun a _ hcell => LdSl.i hcell ?_
      unfold S7_k5
      refine If.f (by rw [hyl]; simp) ?_
      have hb : tallB (s.bk.done.take n) = (tP 1 (s.bk.done.take n) + tP 2 (s.bk.done.take n) + tP 3 (s.bk.done.take n)) + (tT 1 (s.bk.done.take n) + tT 2 (s.bk.done.take n) + tT 3 (s.bk.done.take n)) := rfl
      have fin : ∀ g : Int, (tallB (s.bk.done.take n) : Int) = bef s.bk.done n + g → g = 0 ∨ g = 1 → S7_k7 G K Kp ((tP 1 (s.bk.done.take n) + tP 2 (s.bk.done.take n) + tP 3 (s.bk.done.take n) : Nat) : Int) ((tT 1 (s.bk.done.take n) + tT 2 (s.bk.done.take n) + tT 3 (s.bk.done.take n) : Nat) : Int) (bef s.bk.done n) n (fun vs' h' => (∃ (n : Nat), n ≤ s.bk.done.length + 1 ∧ vs' = [.int .i64 (bef s.bk.done n), .int .i64 n] ∧ Own G h' (c2 :: c1 :: L)) ∧ (match vs' with | [_, .int _ n] => (s.bk.done.length + 1 - n).toNat | _ => 0) < ((s.bk.done.length : Int) + 1 - n).toNat) g h := fun g hg1 hg2 => by
        unfold S7_k7
        refine Rng.go (by omega) (Rng.go (by omega) (If.f (by simp; omega) (Rng.go (by omega) (Rng.go (by omega) ⟨⟨n + 1, by omega, ?_, hO⟩, by simp only; omega⟩))))
        show _ = [Value.int .i64 ((tallB (s.bk.done.take n) : Nat) : Int), _]
        rw [hb]; rfl
      unfold S7_k6
      refine If.dec (fun hn0 => ?_) (fun hn0 => ?_)
      · obtain ⟨m, rfl⟩ : ∃ m, n = m + 1 := ⟨n - 1, by omega⟩
        obtain ⟨z, hzl, hzd, hzc⟩ := v.doc (k := m) (by omega) hO (by simp)
        refine NN.go (LdSl.i (v.docs hO (by simp)) (Rq.go (by omega) ?_))
        refine hyc hO (by simp) _ fun a _ hcell => LdSl.i hcell ?_
        refine NN.go (LdSl.i (v.docs hO (by simp)) (Rng.go (by omega) (Rq.go (by omega) ?_)))
        rw [show (((m + 1 : Nat) : Int) - 1).toNat = m by omega]
        refine hzc hO (by simp) _ fun a _ hcell => LdSl.i hcell ?_
        have hbb := tob (k := m) (by omega)
        rw [hD, ← hyl, ← hzl] at hbb
        have hbe : bef s.bk.done (m + 1) = tallB (s.bk.done.take m) := rfl
        refine If.mk (fun e => ?_) (fun e => ?_)
        · have hne : y.2.1 ≠ z.2.1 := by simp at e; omega
          rw [if_pos hne] at hbb
          exact fin 1 (by omega) (.inr rfl)
        · have hne : ¬ y.2.1 ≠ z.2.1 := by simp at e; omega
          rw [if_neg hne] at hbb
          exact fin 0 (by omega) (.inl rfl)
      · have h0 : n = 0 := by omega
        subst h0
        refine If.f rfl (fin 0 ?_ (.inl rfl))
        show ((tallB (s.bk.done.take 0) : Nat) : Int) = ((bef s.bk.done 0 : Nat) : Int) + 0
        rfl
  · unfold S7_k8
    refine NN.go (LdSl.i (v.docs hO (by simp)) ?_)
    refine pastTally (c := 1) (r := ((s.bk.done.length + 1 : Nat) : Int)) hO hpq hde hed hfit (fun e => by omega) (fun _ h hO => ⟨_, _, _, _, rfl, ?_⟩)
    refine lawNum ⟨_, rfl, ?_⟩
    exact hK _ hO.drop1.drop1
end Go.Sl
