/- RevisionLife: who stands in a text of a run's past was born by then and dies later, if ever; of every list of plays; the seven listed package variables hold what the text lays. Part 10 of 11. -/
import Derived.RowKit
import Derived.RowKitTokens
import Derived.JoinedOf
import Derived.Stop.Joined
import Derived.SevenTiedAt
import Derived.ChangeVars
import Derived.Test.YtdcgpdgokaephaaGreatDoorCards
import Derived.Test.YtdcgpdgokaephaaGreatDoorTie
import Derived.Test.YtdcgpdgokaephaaGreatDoorRd9
set_option linter.unusedVariables false
set_option linter.unusedSimpArgs false
set_option linter.unusedSectionVars false
set_option maxRecDepth 100000
namespace Go.Proofs.YtdcgpdgokaephaaGreatDoor
open Go Go.Sl Go.ChangeShapes Go.WideShapes Go.RowKit
theorem seatOwn : ownKnob Tryz.prog.godebug = none := by kernel_rfl
theorem seatLaidOut : laidOutB Tryz.prog = true := by kernel_rfl
/-- The door's own heap meets the condition. -/
theorem door_met (os : Os) (args : Array Value) : laidMetH Tryz.prog laidL ((World.doorLaid Tryz.prog 600 os).forCall (fun _ _ => 0) ⟨#[], args, []⟩).memory :=
  laidMetH_of_parts3 (fuel := 8) (laidMet_of_run' 8 (by kernel_rfl) (by kernel_rfl)) (by kernel_rfl) (by kernel_rfl)
theorem plays_of {H : Type} {enc : TypeId × Value → H} {W : World} {v : Value} {d : DataW H} {p : List MemPlace} {r : Reach} {b : Nat} (hv : Value.okWide Tryz.prog W r b 22 v) (h : DataW.Trod enc Tryz.prog W 0 (fun _ => true) true 22 v d p) :
    ∃ pa l c xs, v = .slice pa l c ∧ RdA (Wh W) ePl pa l xs ∧ l ≤ 9223372036854775807 := by
  refine slice_of ePl_ok Tryz.underlying22 (by kernel_rfl) (fun n cs y hy => ?_) hv h
  obtain ⟨xs, n, _, _, hl, hn, hf⟩ := DataW.trod_struct Tryz.underlying90 hy
  rw [show Tryz.prog.cellsOf 90 = 4 by kernel_rfl] at hl
  match cs, hl with
  | [c0, c1, c2, c3], _ =>
    have one : ∀ (i : Nat) (f : Field) (c : Value), i < xs.length → (#[Field.mk "Kind" 3 0 false "" "" 0, Field.mk "Who" 3 1 false "" "" 8, Field.mk "At" 3 2 false "" "" 16, Field.mk "Ch" 3 3 false "" "" 24] : Array Field)[i]? = some f → f.type = 3 → ([c0, c1, c2, c3].drop f.offset).take 1 = [c] → ∃ z, c = .int .i64 z := fun i f c hi h1 h2 h3 => by
      have h4 := hf i f h1
      rw [h2, show Tryz.prog.cellsOf 3 = 1 by kernel_rfl, h3, List.getElem?_eq_getElem hi] at h4
      obtain ⟨z, h5, _⟩ := DataW.trod_int Tryz.underlying3 h4
      cases h5
      exact ⟨z, rfl⟩
    have hn4 : xs.length = 4 := hn
    obtain ⟨z0, rfl⟩ := one 0 _ c0 (by omega) rfl rfl rfl
    obtain ⟨z1, rfl⟩ := one 1 _ c1 (by omega) rfl rfl rfl
    obtain ⟨z2, rfl⟩ := one 2 _ c2 (by omega) rfl rfl rfl
    obtain ⟨z3, rfl⟩ := one 3 _ c3 (by omega) rfl rfl rfl
    exact ⟨(z0, z1, z2, z3), rfl⟩
end Go.Proofs.YtdcgpdgokaephaaGreatDoor
set_option maxRecDepth 100000
namespace Go.Sl
open Go Go.Proofs
/-- What can be read of a run, wherever it is owned. -/
structure RView (p : Option Addr) (s : Ru) (c : Heap) (r : Nat) (d : Option Addr) (dc1 : Option Addr) (dc3 : Nat) (dn1 : Option Addr) (dn3 : Nat) (en rv : Hdr) (hds : List Hdr) : Prop where
  hp : p = some ⟨r, 0, none⟩
  disk : ∀ {G h : Heap} {L : List Heap}, Own G h L → c ∈ L → hcell (rd G h) ⟨r, 0 + 3, none⟩ = some (.pointer d)
  docs : ∀ {G h : Heap} {L : List Heap}, Own G h L → c ∈ L → hcell (rd G h) ⟨r, 0 + 14, none⟩ = some (.slice dc1 (s.bk.done.length + 1) dc3)
  done : ∀ {G h : Heap} {L : List Heap}, Own G h L → c ∈ L → hcell (rd G h) ⟨r, 0 + 15, none⟩ = some (.slice dn1 s.bk.done.length dn3)
  ends : ∀ {G h : Heap} {L : List Heap}, Own G h L → c ∈ L → hcell (rd G h) ⟨r, 0 + 16, none⟩ = some (.slice en.1 en.2.1 en.2.2)
  revs : ∀ {G h : Heap} {L : List Heap}, Own G h L → c ∈ L → hcell (rd G h) ⟨r, 0 + 17, none⟩ = some (.slice rv.1 rv.2.1 rv.2.2)
  dl : ∀ {L : List Heap}, c ∈ L → Rdl L eDc dc1 (s.bk.done.length + 1) hds
  hl : hds.length = s.bk.done.length + 1
  dd : ∀ {k : Nat} {y : Hdr}, hds[k]? = some y → k ≤ s.bk.done.length → ∀ {L : List Heap}, c ∈ L → Rdl L eElm y.1 y.2.1 (replayD (s.bk.done.take k))
  el : ∀ {L : List Heap}, c ∈ L → Rdl L eI en.1 en.2.1 (endsI s.its)
  rl : ∀ {L : List Heap}, c ∈ L → Rdl L eI rv.1 rv.2.1 (revsI s.its)
theorem mem_perm {c : Heap} {L : List Heap} (h : c ∈ L) : ∃ R, (c :: R).Perm L := by
  obtain ⟨a, b, rfl⟩ := List.append_of_mem h
  exact ⟨a ++ b, List.perm_middle.symm⟩
theorem RunP.view {p : Option Addr} {s : Ru} {c : Heap} (hq : RunP p s c) : ∃ r d dc1 dc3 dn1 dn3 en rv hds, RView p s c r d dc1 dc3 dn1 dn3 en rv hds := by
  obtain ⟨d, b, r, C, M, dc, dn, en, rv, hds, dcs, cc, cm, cb, c1, c2, c3, c4, hp, hcl, hb, hm, hd1, hd2, hdn, hen, hrv, hj⟩ := hq
  obtain ⟨dn1, dn2, dn3⟩ := dn
  obtain ⟨dc1, dc2, dc3⟩ := dc
  simp only at hdn hd1
  have e3 := hdn.len
  have e4 := hd1.len
  have e5 := hd2.l1
  have e6 := hd2.l2
  rw [docsOf_len] at e5 e6
  rw [e5] at e4
  subst e3
  subst e4
  have op : ∀ {G h : Heap} {L R : List Heap}, Own G h L → (c :: R).Perm L → Own G h (single r (ruB C d b M (fun i => s.has i) (fun i => s.down i) (dc1, s.bk.done.length + 1, dc3) (dn1, s.bk.done.length, dn3) en rv s.boots) :: cb :: cc 0 :: cc 1 :: cc 2 :: cm 0 :: cm 1 :: cm 2 :: c1 :: c2 :: c3 :: c4 :: (dcs ++ R)) := fun hO hR => (hO.perm hR.symm.symm).openJ hj |> fun h => h
  refine ⟨r, d, dc1, dc3, dn1, dn3, en, rv, hds, hp, ?_, ?_, ?_, ?_, ?_, ?_, e5, ?_, ?_, ?_⟩
  · intro G h L hO hc; obtain ⟨R, hR⟩ := mem_perm hc; exact hcell_own (op hO hR) inferInstance (by with_unfolding_all rfl)
  · intro G h L hO hc; obtain ⟨R, hR⟩ := mem_perm hc; exact hcell_own (op hO hR) inferInstance (by with_unfolding_all rfl)
  · intro G h L hO hc; obtain ⟨R, hR⟩ := mem_perm hc; exact hcell_own (op hO hR) inferInstance (by with_unfolding_all rfl)
  · intro G h L hO hc; obtain ⟨R, hR⟩ := mem_perm hc; exact hcell_own (op hO hR) inferInstance (by with_unfolding_all rfl)
  · intro G h L hO hc; obtain ⟨R, hR⟩ := mem_perm hc; exact hcell_own (op hO hR) inferInstance (by with_unfolding_all rfl)
  · intro L hc G h hO
    obtain ⟨R, hR⟩ := mem_perm hc
    exact (hd1.rdO (op hO hR) (by simp)) _ _ (op hO hR)
  · intro k y hy hk L hc G h hO
    obtain ⟨R, hR⟩ := mem_perm hc
    have hcc : dcs[k]? = some (dcs[k]'(by omega)) := List.getElem?_eq_getElem _
    exact hd2.rd k y _ _ hy (docsOf_get hk) hcc _ (by simp [List.getElem_mem]) _ _ (op hO hR)
  · intro L hc G h hO
    obtain ⟨R, hR⟩ := mem_perm hc
    exact (hen.rdO (op hO hR) (by simp)) _ _ (op hO hR)
  · intro L hc G h hO
    obtain ⟨R, hR⟩ := mem_perm hc
    exact (hrv.rdO (op hO hR) (by simp)) _ _ (op hO hR)
/-- One text of a run, read. -/
theorem RView.doc {p : Option Addr} {s : Ru} {c : Heap} {r : Nat} {d dc1 : Option Addr} {dc3 : Nat} {dn1 : Option Addr} {dn3 : Nat} {en rv : Hdr} {hds : List Hdr} (v : RView p s c r d dc1 dc3 dn1 dn3 en rv hds) {k : Nat} (hk : k ≤ s.bk.done.length) {G0 h0 : Heap} {L0 : List Heap} (hO0 : Own G0 h0 L0) (hc0 : c ∈ L0) :
    ∃ y : Hdr, y.2.1 = (replayD (s.bk.done.take k)).length ∧ (∀ {L : List Heap}, c ∈ L → Rdl L eElm y.1 y.2.1 (replayD (s.bk.done.take k))) ∧
      ∀ {G h : Heap} {L : List Heap}, Own G h L → c ∈ L → ∀ K, (∀ a, dc1 = some a → hcell (rd G h) (a.add (k * 1)) = some (.slice y.1 y.2.1 y.2.2) → K a) → NN dc1 K := by
  have hl := v.hl
  have hy : hds[k]? = some (hds[k]'(by omega)) := List.getElem?_eq_getElem _
  generalize hds[k]'(by omega) = y at hy
  refine ⟨y, ?_, v.dd hy hk, fun {G h L} hO hc K hK => ?_⟩
  · exact (v.dd hy hk hc0).len hO0
  · obtain ⟨y2, hy2, hn'⟩ := (v.dl hc).at eDc_ok hO (i := (k : Int)) (by omega) (by omega)
    rw [Int.toNat_natCast] at hy2 hn'
    rw [hy] at hy2
    cases hy2
    exact hn' K fun a ha hcell => hK a ha (hcell 0 _ rfl)
end Go.Sl
set_option maxRecDepth 100000
namespace Go.Sl
open Go Go.Proofs
def tS (c : Int) (d : List Elm) : Nat := d.countP fun e => e.client == c
/-- A record of the past. -/
theorem pastDone {G h : Heap} {L R : List Heap} {p : Option Addr} {y : Bk} {ps : PS} {c : Heap} {i : Int} {o : Op} {K : Value → Heap → Prop} {Kp : PK} (hO : Own G h L) [t : Take L c R] (hq : PastP p y ps c) (hr : 1 ≤ i ∧ i ≤ y.edits.length) (hde : y.done.length = y.edits.length) (hsm : y.edits.length ≤ 4000) (ho : y.done[(i - 1).toNat]? = some o)
    (hK : ∀ h', Own G h' L → K (.tuple #[opV o, .int .i64 0]) h') : NN p fun a => LdP G h a fun q => CallF Tryz.prog G 35 #[.pointer q, .int .i64 i] K Kp h := by
  obtain ⟨b, pb, d, pls, n, cb, m1, k1, e1, m2, k2, e2', rfl, hb, hb1, hb2, hj⟩ := hq
  (have hO := (hO.perm t.perm).openJ hj; simp only [List.cons_append, List.nil_append] at hO)
  refine NN.go (LdP.g hO ?_)
  refine bookDone (o := o) hO hb hr hde hsm ho fun h hO => hK _ ?_
  exact Own.reclose hj (L := L) (R := R) t.perm (by (refine hO.sp fun a => ?_; simp only [cnt_app, List.append_eq, cnt_cons, cnt_nil]; omega))
end Go.Sl
set_option maxRecDepth 100000
namespace Go.Sl
open Go Go.Proofs
/-! Elements: put in once, taken away at most once. -/
def elO (o : Op) : Elm := ⟨o.ch, o.client, o.seq⟩
def InsAt (D : List Op) (n : Nat) (x : Elm) : Prop := ∃ o, D[n]? = some o ∧ o.kind = 1 ∧ elO o = x
def DelAt (D : List Op) (n : Nat) (x : Elm) : Prop := ∃ o, D[n]? = some o ∧ o.kind = 2 ∧ (replayD (D.take n))[o.pos.toNat]? = some x
/-- No two records of one client bear one number. -/
def Apt (D : List Op) : Prop := ∀ (i j : Nat) (a b : Op), D[i]? = some a → D[j]? = some b → a.client = b.client → a.seq = b.seq → i = j
theorem InsAt.uniq {D : List Op} (hu : Apt D) {i j : Nat} {x : Elm} (h1 : InsAt D i x) (h2 : InsAt D j x) : i = j := by
  obtain ⟨a, ha, _, ea⟩ := h1
  obtain ⟨b, hb, _, eb⟩ := h2
  refine hu i j a b ha hb ?_ ?_
  · have h1 := congrArg Elm.client ea
    have h2 := congrArg Elm.client eb
    exact h1.trans h2.symm
  · have h1 := congrArg Elm.seq ea
    have h2 := congrArg Elm.seq eb
    exact h1.trans h2.symm
theorem mem_insL {d : List Elm} {p : Nat} {x e : Elm} : e ∈ insL p x d ↔ e = x ∨ e ∈ d := by
  have h : d = d.take p ++ d.drop p := (List.take_append_drop p d).symm
  unfold insL
  rw [List.mem_append, List.mem_append, List.mem_singleton]
  conv => rhs; rw [h, List.mem_append]
  constructor
  · rintro ((h | h) | h)
    · exact .inr (.inl h)
    · exact .inl h
    · exact .inr (.inr h)
  · rintro (h | h | h)
    · exact .inl (.inr h)
    · exact .inl (.inl h)
    · exact .inr h
theorem split_at {d : List Elm} {p : Nat} {x : Elm} (h : d[p]? = some x) : d = d.take p ++ (x :: d.drop (p + 1)) := by
  have hp := (List.getElem?_eq_some_iff.1 h).1
  have he := (List.getElem?_eq_some_iff.1 h).2
  rw [← he, ← List.drop_eq_getElem_cons hp, List.take_append_drop]
theorem mem_delL {d : List Elm} {p : Nat} {x e : Elm} (h : d[p]? = some x) (hn : d.Nodup) : e ∈ delL p d ↔ e ∈ d ∧ e ≠ x := by
  have h2 := split_at h
  have hn2 : (x :: (d.take p ++ d.drop (p + 1))).Nodup := by
    rw [h2] at hn
    exact (List.perm_middle.nodup_iff).1 hn
  have hx := (List.nodup_cons.1 hn2).1
  unfold delL
  constructor
  · intro he
    refine ⟨?_, fun e1 => hx (e1 ▸ he)⟩
    rw [h2]
    rcases List.mem_append.1 he with he | he
    · exact List.mem_append_left _ he
    · exact List.mem_append_right _ (List.mem_cons_of_mem _ he)
  · rintro ⟨he, hne⟩
    rw [h2] at he
    rcases List.mem_append.1 he with he | he
    · exact List.mem_append_left _ he
    · rcases List.mem_cons.1 he with he | he
      · exact absurd he hne
      · exact List.mem_append_right _ he
theorem nodup_insL {d : List Elm} {p : Nat} {x : Elm} (hn : d.Nodup) (hx : x ∉ d) : (insL p x d).Nodup := by
  have h : d = d.take p ++ d.drop p := (List.take_append_drop p d).symm
  have h1 : (x :: (d.take p ++ d.drop p)).Nodup := by
    rw [← h]; exact List.nodup_cons.2 ⟨hx, hn⟩
  unfold insL
  rw [List.append_assoc]
  exact (List.perm_middle.nodup_iff).2 h1
theorem nodup_delL {d : List Elm} {p : Nat} (hn : d.Nodup) : (delL p d).Nodup := by
  unfold delL
  have : (d.take p ++ d.drop (p + 1)).Sublist d := by
    conv => rhs; rw [← List.take_append_drop p d]
    exact List.Sublist.append (List.Sublist.refl _) (List.drop_sublist_drop_left d (by omega))
  exact hn.sublist this
theorem mem_delL_of {d : List Elm} {p : Nat} {e : Elm} (h : e ∈ delL p d) : e ∈ d := by
  unfold delL at h
  rcases List.mem_append.1 h with h | h
  · exact List.mem_of_mem_take h
  · exact List.mem_of_mem_drop h
/-- What is known of the texts. -/
theorem texts_ok {D : List Op} (hf : FitL [] D) (hu : Apt D) : ∀ k, k ≤ D.length → (replayD (D.take k)).Nodup ∧ ∀ x ∈ replayD (D.take k), ∃ n, n < k ∧ InsAt D n x := by
  intro k
  induction k with
  | zero => intro _; exact ⟨List.Pairwise.nil, fun x hx => (by cases hx)⟩
  | succ k ih =>
    intro hk
    obtain ⟨h1, h2⟩ := ih (by omega)
    have ho : D[k]? = some (D[k]'(by omega)) := List.getElem?_eq_getElem _
    generalize D[k]'(by omega) = o at ho
    have hfo := hf.at ho
    rw [show applyL [] (D.take k) = replayD (D.take k) from rfl] at hfo
    rw [replayD_succ ho]
    rcases hfo.k with ⟨k0, hk0⟩ | ⟨k0, hk0⟩ | ⟨k0, hk0⟩
    · rw [app0 k0]
      exact ⟨h1, fun x hx => by obtain ⟨n, h3, h4⟩ := h2 x hx; exact ⟨n, by omega, h4⟩⟩
    · rw [app1 k0]
      have hnew : elO o ∉ replayD (D.take k) := fun hx => by
        obtain ⟨n, h3, h4⟩ := h2 _ hx
        have := h4.uniq hu ⟨o, ho, k0, rfl⟩
        omega
      refine ⟨nodup_insL h1 hnew, fun x hx => ?_⟩
      rcases mem_insL.1 hx with rfl | hx
      · exact ⟨k, by omega, o, ho, k0, rfl⟩
      · obtain ⟨n, h3, h4⟩ := h2 x hx; exact ⟨n, by omega, h4⟩
    · rw [app2 k0]
      refine ⟨nodup_delL h1, fun x hx => ?_⟩
      obtain ⟨n, h3, h4⟩ := h2 x (mem_delL_of hx)
      exact ⟨n, by omega, h4⟩
/-- One step. -/
theorem mem_step {D : List Op} (hf : FitL [] D) (hu : Apt D) {k : Nat} (hk : k < D.length) (x : Elm) : x ∈ replayD (D.take (k + 1)) ↔ InsAt D k x ∨ (x ∈ replayD (D.take k) ∧ ¬ DelAt D k x) := by
  have ho : D[k]? = some (D[k]'hk) := List.getElem?_eq_getElem _
  generalize D[k]'hk = o at ho
  have hfo := hf.at ho
  rw [show applyL [] (D.take k) = replayD (D.take k) from rfl] at hfo
  have hnd := (texts_ok hf hu k (by omega)).1
  rw [replayD_succ ho]
  have noIns : o.kind ≠ 1 → ¬ InsAt D k x := fun h ⟨o2, h1, h2, _⟩ => by rw [ho] at h1; cases h1; exact h h2
  have noDel : o.kind ≠ 2 → ¬ DelAt D k x := fun h ⟨o2, h1, h2, _⟩ => by rw [ho] at h1; cases h1; exact h h2
  rcases hfo.k with ⟨k0, hk0⟩ | ⟨k0, hk0⟩ | ⟨k0, hk0⟩
  · rw [app0 k0]
    exact ⟨fun h => .inr ⟨h, noDel (by omega)⟩, fun h => h.elim (fun h => absurd h (noIns (by omega))) (·.1)⟩
  · rw [app1 k0, mem_insL]
    have e1 : InsAt D k x ↔ x = (⟨o.ch, o.client, o.seq⟩ : Elm) := ⟨fun ⟨o2, h1, _, h3⟩ => by rw [ho] at h1; cases h1; exact h3.symm, fun h => ⟨o, ho, k0, h.symm⟩⟩
    rw [e1]
    exact ⟨fun h => h.elim .inl fun h => .inr ⟨h, noDel (by omega)⟩, fun h => h.elim .inl fun h => .inr h.1⟩
  · rw [app2 k0]
    have hp : (replayD (D.take k))[o.pos.toNat]? = some ((replayD (D.take k))[o.pos.toNat]'(by omega)) := List.getElem?_eq_getElem _
    generalize (replayD (D.take k))[o.pos.toNat]'(by omega) = y at hp
    rw [mem_delL hp hnd]
    have e1 : DelAt D k x ↔ x = y := ⟨fun ⟨o2, h1, _, h3⟩ => by rw [ho] at h1; cases h1; rw [hp] at h3; cases h3; rfl, fun h => ⟨o, ho, k0, by rw [h]; exact hp⟩⟩
    rw [e1]
    exact ⟨fun h => .inr h, fun h => h.elim (fun h => absurd h (noIns (by omega))) id⟩
theorem ins_mem {D : List Op} (hf : FitL [] D) (hu : Apt D) {n : Nat} {x : Elm} (h : InsAt D n x) : x ∈ replayD (D.take (n + 1)) ∧ ∀ j, j ≤ n → x ∉ replayD (D.take j) := by
  have hn : n < D.length := by obtain ⟨o, ho, _⟩ := h; exact (List.getElem?_eq_some_iff.1 ho).1
  refine ⟨(mem_step hf hu hn x).2 (.inl h), fun j hj hx => ?_⟩
  obtain ⟨m, h1, h2⟩ := (texts_ok hf hu j (by omega)).2 x hx
  have := h2.uniq hu h
  omega
theorem del_mem {D : List Op} (hf : FitL [] D) (hu : Apt D) {m : Nat} {x : Elm} (h : DelAt D m x) : x ∈ replayD (D.take m) ∧ ∀ j, m < j → j ≤ D.length → x ∉ replayD (D.take j) := by
  obtain ⟨o, ho, k0, hx⟩ := id h
  have hm : m < D.length := (List.getElem?_eq_some_iff.1 ho).1
  have hin := List.mem_of_getElem? hx
  refine ⟨hin, fun j hj => ?_⟩
  obtain ⟨n, hn, hins⟩ := (texts_ok hf hu m (by omega)).2 x hin
  have key : ∀ i, m + 1 + i ≤ D.length → x ∉ replayD (D.take (m + 1 + i)) := by
    intro i
    induction i with
    | zero =>
      intro _ hx2
      rcases (mem_step hf hu hm x).1 hx2 with h1 | ⟨_, h1⟩
      · have := h1.uniq hu hins; omega
      · exact h1 h
    | succ i ih =>
      intro hi hx2
      rcases (mem_step hf hu (show m + 1 + i < D.length by omega) x).1 hx2 with h1 | ⟨h1, _⟩
      · have := h1.uniq hu hins; omega
      · exact ih (by omega) h1
  intro hjl
  have := key (j - (m + 1)) (by omega)
  rwa [show m + 1 + (j - (m + 1)) = j by omega] at this
/-- Who stands in a text stands on, if nobody takes it away. -/
theorem stay_mem {D : List Op} (hf : FitL [] D) (hu : Apt D) {k : Nat} {x : Elm} (hx : x ∈ replayD (D.take k)) (hno : ∀ m, k ≤ m → ¬ DelAt D m x) : ∀ j, k ≤ j → j ≤ D.length → x ∈ replayD (D.take j) := by
  intro j hj
  obtain ⟨i, rfl⟩ : ∃ i, j = k + i := ⟨j - k, by omega⟩
  clear hj
  induction i with
  | zero => intro _; exact hx
  | succ i ih => intro hi; exact (mem_step hf hu (show k + i < D.length by omega) x).2 (.inr ⟨ih (by omega), hno _ (by omega)⟩)
/-- What 'born' and 'died' say. -/
theorem born_ok {D : List Op} (hf : FitL [] D) (hu : Apt D) (x : Elm) : ∀ k, k ≤ D.length → (∀ v, (psOf (D.take k)).born x = some v → ∃ n, n < k ∧ v = n + 1 ∧ InsAt D n x) ∧ (∀ n, n < k → InsAt D n x → (psOf (D.take k)).born x = some ((n : Int) + 1)) := by
  intro k
  induction k with
  | zero => intro _; exact ⟨fun v h => (by cases h), fun n h => (by omega)⟩
  | succ k ih =>
    intro hk
    obtain ⟨h1, h2⟩ := ih (by omega)
    have ho : D[k]? = some (D[k]'(by omega)) := List.getElem?_eq_getElem _
    generalize D[k]'(by omega) = o at ho
    have hps := psOf_take D k (by omega)
    rw [psOf_succ ho]
    by_cases k0 : o.kind = 1
    · rw [PS.b1 k0]
      by_cases e : x = ⟨o.ch, o.client, o.seq⟩
      · simp only [if_pos e, hps.2]
        have hin : InsAt D k x := ⟨o, ho, k0, e.symm⟩
        refine ⟨fun v hv => ⟨k, by omega, (by cases hv; rfl), hin⟩, fun n hn hi => ?_⟩
        rw [hi.uniq hu hin]
      · simp only [if_neg e]
        refine ⟨fun v hv => ?_, fun n hn hi => ?_⟩
        · obtain ⟨n, h3, h4, h5⟩ := h1 v hv; exact ⟨n, by omega, h4, h5⟩
        · rcases Nat.lt_or_ge n k with hlt | hge
          · exact h2 n hlt hi
          · have : n = k := by omega
            subst this
            obtain ⟨o2, g1, _, g3⟩ := hi
            rw [ho] at g1; cases g1
            exact absurd g3.symm e
    · rw [PS.b0 k0]
      refine ⟨fun v hv => ?_, fun n hn hi => ?_⟩
      · obtain ⟨n, h3, h4, h5⟩ := h1 v hv; exact ⟨n, by omega, h4, h5⟩
      · rcases Nat.lt_or_ge n k with hlt | hge
        · exact h2 n hlt hi
        · have : n = k := by omega
          subst this
          obtain ⟨o2, g1, g2, _⟩ := hi
          rw [ho] at g1; cases g1
          exact absurd g2 k0
theorem DelAt.uniq {D : List Op} (hf : FitL [] D) (hu : Apt D) {i j : Nat} {x : Elm} (h1 : DelAt D i x) (h2 : DelAt D j x) : i = j := by
  have hi : i < D.length := by obtain ⟨o, ho, _⟩ := h1; exact (List.getElem?_eq_some_iff.1 ho).1
  have hj : j < D.length := by obtain ⟨o, ho, _⟩ := h2; exact (List.getElem?_eq_some_iff.1 ho).1
  rcases Nat.lt_trichotomy i j with h | h | h
  · exact absurd (del_mem hf hu h2).1 ((del_mem hf hu h1).2 j h (by omega))
  · exact h
  · exact absurd (del_mem hf hu h1).1 ((del_mem hf hu h2).2 i h (by omega))
theorem died_ok {D : List Op} (hf : FitL [] D) (hu : Apt D) (x : Elm) : ∀ k, k ≤ D.length → (∀ v, (psOf (D.take k)).died x = some v → ∃ n, n < k ∧ v = n + 1 ∧ DelAt D n x) ∧ (∀ n, n < k → DelAt D n x → (psOf (D.take k)).died x = some ((n : Int) + 1)) := by
  intro k
  induction k with
  | zero => intro _; exact ⟨fun v h => (by cases h), fun n h => (by omega)⟩
  | succ k ih =>
    intro hk
    obtain ⟨h1, h2⟩ := ih (by omega)
    have ho : D[k]? = some (D[k]'(by omega)) := List.getElem?_eq_getElem _
    generalize D[k]'(by omega) = o at ho
    have hps := psOf_take D k (by omega)
    rw [psOf_succ ho]
    by_cases k0 : o.kind = 2
    · have hfo := hf.at ho
      rw [show applyL [] (D.take k) = replayD (D.take k) from rfl] at hfo
      have hlt : o.pos.toNat < (replayD (D.take k)).length := by
        rcases hfo.k with h | h | h
        · omega
        · omega
        · omega
      have hp : (replayD (D.take k))[o.pos.toNat]? = some ((replayD (D.take k))[o.pos.toNat]'hlt) := List.getElem?_eq_getElem _
      generalize (replayD (D.take k))[o.pos.toNat]'hlt = y at hp
      rw [PS.d1 k0]
      simp only [hps.1, hps.2, hp, Option.getD_some]
      by_cases e : x = y
      · simp only [if_pos e]
        have hin : DelAt D k x := ⟨o, ho, k0, by rw [e]; exact hp⟩
        refine ⟨fun v hv => ⟨k, by omega, (by cases hv; rfl), hin⟩, fun n hn hi => ?_⟩
        rw [hi.uniq hf hu hin]
      · simp only [if_neg e]
        refine ⟨fun v hv => ?_, fun n hn hi => ?_⟩
        · obtain ⟨n, h3, h4, h5⟩ := h1 v hv; exact ⟨n, by omega, h4, h5⟩
        · rcases Nat.lt_or_ge n k with hlt | hge
          · exact h2 n hlt hi
          · have : n = k := by omega
            subst this
            obtain ⟨o2, g1, _, g3⟩ := hi
            rw [ho] at g1; cases g1
            rw [hp] at g3
            cases g3
            exact absurd rfl e
    · rw [PS.d0 k0]
      refine ⟨fun v hv => ?_, fun n hn hi => ?_⟩
      · obtain ⟨n, h3, h4, h5⟩ := h1 v hv; exact ⟨n, by omega, h4, h5⟩
      · rcases Nat.lt_or_ge n k with hlt | hge
        · exact h2 n hlt hi
        · have : n = k := by omega
          subst this
          obtain ⟨o2, g1, g2, _⟩ := hi
          rw [ho] at g1; cases g1
          exact absurd g2 k0
theorem cnt_lt {c : Int} {D : List Op} {i j : Nat} {a : Op} (hij : i < j) (ha : D[i]? = some a) (hc : a.client = c) : cntC c (D.take i) + 1 ≤ cntC c (D.take j) := by
  have h1 : cntC c (D.take (i + 1)) = cntC c (D.take i) + 1 := by rw [take_snoc ha, cntC_snoc, if_pos hc]
  have h2 : cntC c (D.take (i + 1)) ≤ cntC c (D.take j) := by
    have : (D.take (i + 1)).Sublist (D.take j) := List.take_sublist_take_left (by omega)
    unfold cntC; exact this.countP_le
  omega
/-- The records of a run are apart. -/
theorem BI.apt {s : Ru} (b : BI s) : Apt s.bk.done := by
  intro i j x y hx hy hc hq
  have h1 := b.sq i x hx
  have h2 := b.sq j y hy
  rcases Nat.lt_trichotomy i j with h | h | h
  · have := cnt_lt h hx rfl
    rw [← hc] at h2
    omega
  · exact h
  · have := cnt_lt h hy rfl
    rw [← hc] at this h2
    omega
end Go.Sl
set_option maxRecDepth 100000
namespace Go.Sl
open Go Go.Proofs
theorem lawPlace {G h : Heap} {L : List Heap} {q : Option Addr} {l c : Nat} {d : List Elm} {x : Elm} {K : Value → Heap → Prop} {Kp : PK} (hO : Own G h L) (hr : Rdl L eElm q l d) (hsm : l ≤ 100000)
    (hK : ∀ h' (n : Int), Own G h' L → (0 ≤ n → n < l ∧ d[n.toNat]? = some x) → (n < 0 → n = -1 ∧ x ∉ d) → K (.int .i64 n) h') :
    CallF Tryz.prog G 22 #[.slice q l c, .agg #[.int .u8 x.ch, .int .i64 x.client, .int .i64 x.seq]] K Kp h := by
  refine S22_ok ?_
  unfold S22
  have hl := hr.len hO
  refine newK.go hO ?_
  clear hO; intro r7 h hO
  refine LoopS.go (fun vs h' => ∃ (n : Nat), n ≤ l ∧ vs = [.int .i64 n] ∧ x ∉ d.take n ∧ Own G h' (single r7 (.cells #[.int .u8 x.ch, .int .i64 x.client, .int .i64 x.seq] 63 (0, 0)) :: L)) (fun vs _ => match vs with | [.int _ n] => (l - n).toNat | _ => 0) ⟨0, by omega, rfl, by simp, hO⟩ ?_
  clear hO
  rintro jv vs h ⟨n, hn, rfl, hno, hO⟩
  unfold S22_l2
  refine ⟨_, rfl, If.dec (fun hlt => ?_) (fun hlt => ?_)⟩
  · refine Rq.go ⟨by omega, hlt⟩ ?_
    obtain ⟨y, hy, hn'⟩ := (hr.cons _).at eElm_ok hO (i := (n : Int)) (by omega) hlt
    have hy' : d[n]? = some y := by simpa using hy
    refine hn' _ fun a _ hc => ?_
    refine LdI.i (hc 0 _ rfl) (LdI.i (hc 1 _ rfl) (LdI.i (hc 2 _ rfl) ?_))
    (repeat (with_reducible first | refine NN.go ?_ | refine LdI.g hO ?_ | refine LdSl.g hO ?_ | refine LdP.g hO ?_ | refine LdM.g hO ?_ | refine LdB.g hO ?_ | refine cell_g hO ?_ | refine Rq.go (by omega) ?_ | refine Rng.go (by omega) ?_ | (refine st1.g hO ?_; clear hO; intro h hO; dsimp only [ad, List.set] at hO)))
    refine If.mk (fun e => ?_) (fun e => ?_)
    · have hyx : y = x := by
        obtain ⟨y1, y2, y3⟩ := y
        obtain ⟨x1, x2, x3⟩ := x
        simp at e ⊢
        exact e
      subst hyx
      exact hK _ _ hO.drop1 (fun _ => ⟨hlt, by simpa using hy'⟩) (fun h => by omega)
    · refine Rng.go (by omega) ⟨⟨n + 1, by omega, rfl, ?_, hO⟩, by simp only; omega⟩
      rw [List.take_add_one, hy', Option.toList_some, List.mem_append, List.mem_singleton]
      rintro (h1 | rfl)
      · exact hno h1
      · simp at e
  · have hnl : n = d.length := by omega
    subst hnl
    rw [List.take_length] at hno
    unfold S22_k1
    exact hK _ _ hO.drop1 (fun h => by omega) (fun _ => ⟨rfl, hno⟩)
theorem pastBorn {G h : Heap} {L R : List Heap} {p : Option Addr} {y : Bk} {ps : PS} {c : Heap} {r i : Int} {K : Value → Heap → Prop} {Kp : PK} (hO : Own G h L) [t : Take L c R] (hq : PastP p y ps c) (hde : y.done.length = y.edits.length) (hsm : y.edits.length ≤ 4000) (hfit : Fit y.done) (hr : 0 ≤ r ∧ r ≤ y.edits.length)
    (hK1 : ∀ x, 0 ≤ i → (replayD (y.done.take r.toNat))[i.toNat]? = some x → ∀ h', Own G h' L → K (.tuple #[.int .i64 ((ps.born x).getD 0), .int .i64 0]) h')
    (hK2 : ¬ (0 ≤ i ∧ i < (replayD (y.done.take r.toNat)).length) → ∀ h', Own G h' L → K (.tuple #[.int .i64 0, .int .i64 181]) h') : CallF Tryz.prog G 21 #[.pointer p, .int .i64 r, .int .i64 i] K Kp h := by
  refine S21_ok ?_
  unfold S21
  refine pastText hO hq hde hsm hfit (fun _ h p' l' c' pc hs hO => ⟨_, _, _, _, rfl, If.f rfl ?_⟩) (fun e => absurd hr e)
  have hl := hs.len
  refine If.dec (fun e => ?_) (fun e => ?_)
  · unfold S21_k1
    exact If.t rfl (hK2 (by omega) _ hO.drop1)
  · unfold S21_k1
    refine If.dec (fun e2 => hK2 (by omega) _ hO.drop1) (fun e2 => ?_)
    obtain ⟨b, pb, d, pls, n, cb, m1, k1, e1, m2, k2, e2', rfl, hb, hb1, hb2, hj⟩ := id hq
    have hO2 : Own G h (single b (.cells #[.pointer pb, .map (some m1), .map (some m2)] 94 (0, 0)) :: cb :: single m1 (mpO eElk e1 k1) :: single m2 (mpO eElk e2' k2) :: (pc :: R)) := (hO.perm ((List.Perm.swap _ _ _).trans (t.perm.cons _))).openJ hj
    refine NN.go (LdM.go hO2 (by with_unfolding_all rfl) (Rq.go (by omega) ?_))
    obtain ⟨x, hx, hn'⟩ := (hs.rdO hO (by simp)).at eElm_ok hO (i := i) (by omega) (by omega)
    refine hn' _ fun a _ hc => ?_
    refine LdI.i (hc 0 _ rfl) (LdI.i (hc 1 _ rfl) (LdI.i (hc 2 _ rfl) ?_))
    refine look1_go tElk (hO2.rd inferInstance) x ⟨_, rfl, ?_⟩
    rw [hb1]
    exact hK1 x (by omega) hx _ hO.drop1
theorem pastDied {G h : Heap} {L R : List Heap} {p : Option Addr} {y : Bk} {ps : PS} {c : Heap} {r : Int} {K : Value → Heap → Prop} {Kp : PK} (hO : Own G h L) [t : Take L c R] (hq : PastP p y ps c) (hde : y.done.length = y.edits.length) (hsm : y.edits.length ≤ 4000)
    (hK1 : ∀ o, 1 ≤ r → y.done[(r - 1).toNat]? = some o → ∀ h', Own G h' L → K (.tuple #[.int .i64 (if o.kind = 1 then (ps.died (elO o)).getD 0 else 0), .int .i64 0]) h')
    (hK2 : ¬ (1 ≤ r ∧ r ≤ y.edits.length) → ∀ h', Own G h' L → K (.tuple #[.int .i64 0, .int .i64 180]) h') : CallF Tryz.prog G 23 #[.pointer p, .int .i64 r] K Kp h := by
  refine S23_ok ?_
  unfold S23
  refine If.dec (fun e => ?_) (fun e => ?_)
  · unfold S23_k1
    exact If.t rfl (hK2 (by omega) _ hO)
  · refine pastRevs hO hq ⟨_, rfl, ?_⟩
    unfold S23_k1
    refine If.dec (fun e2 => hK2 (by omega) _ hO) (fun e2 => ?_)
    have hlt : (r - 1).toNat < y.done.length := by omega
    have ho : y.done[(r - 1).toNat]? = some (y.done[(r - 1).toNat]'hlt) := List.getElem?_eq_getElem _
    generalize y.done[(r - 1).toNat]'hlt = o at ho
    refine pastDone (o := o) hO hq (by omega) hde hsm ho fun h hO => ⟨_, _, _, _, _, _, rfl, ?_⟩
    have hO0 := hO
    refine newK.go hO ?_
    clear hO; intro r14 h hO
    (repeat (with_reducible first | refine NN.go ?_ | refine LdI.g hO ?_ | refine LdSl.g hO ?_ | refine LdP.g hO ?_ | refine LdM.g hO ?_ | refine LdB.g hO ?_ | refine cell_g hO ?_ | refine Rq.go (by omega) ?_ | refine Rng.go (by omega) ?_ | (refine st1.g hO ?_; clear hO; intro h hO; dsimp only [ad, List.set] at hO)))
    refine If.mk (fun e3 => ?_) (fun e3 => ?_)
    · have hk : o.kind ≠ 1 := by simpa using e3
      have := hK1 o (by omega) ho _ hO.drop1
      rw [if_neg hk] at this
      exact this
    · have hk : o.kind = 1 := by simpa using e3
      obtain ⟨b, pb, d, pls, n, cb, m1, k1, e1, m2, k2, e2', rfl, hb, hb1, hb2, hj⟩ := id hq
      have hO2 : Own G h (single b (.cells #[.pointer pb, .map (some m1), .map (some m2)] 94 (0, 0)) :: cb :: single m1 (mpO eElk e1 k1) :: single m2 (mpO eElk e2' k2) :: (single r14 (.cells #[.int .i64 o.kind, .int .i64 o.pos, .int .u8 o.ch, .int .i64 o.client, .int .i64 o.seq] 84 (0, 0)) :: R)) := (hO.perm ((List.Perm.swap _ _ _).trans (t.perm.cons _))).openJ hj
      refine NN.go (LdM.g hO2 ?_)
      (repeat (with_reducible first | refine NN.go ?_ | refine LdI.g hO ?_ | refine LdSl.g hO ?_ | refine LdP.g hO ?_ | refine LdM.g hO ?_ | refine LdB.g hO ?_ | refine cell_g hO ?_ | refine Rq.go (by omega) ?_ | refine Rng.go (by omega) ?_ | (refine st1.g hO ?_; clear hO; intro h hO; dsimp only [ad, List.set] at hO)))
      refine look1_go tElk (hO2.rd inferInstance) (elO o) ⟨_, rfl, ?_⟩
      rw [hb2]
      have := hK1 o (by omega) ho _ hO.drop1
      rw [if_pos hk] at this
      exact this
end Go.Sl
set_option maxRecDepth 100000
namespace Go.Sl
open Go Go.Proofs
theorem docPlace {p : Option Addr} {s : Ru} {c : Heap} {r : Nat} {d dc1 : Option Addr} {dc3 : Nat} {dn1 : Option Addr} {dn3 : Nat} {en rv : Hdr} {hds : List Hdr} (v : RView p s c r d dc1 dc3 dn1 dn3 en rv hds) {G h : Heap} {L : List Heap} (hO : Own G h L) (hc : c ∈ L) (hN : s.bk.done.length ≤ 4000) {j : Nat} (hj : j ≤ s.bk.done.length) {jj : Int} (hjj : jj = j) {x : Elm} {r38 : Nat} {K : Value → Heap → Prop} {Kp : PK}
    (x1 : hcell (rd G h) ⟨r38, 0, none⟩ = some (.int .u8 x.ch)) (x2 : hcell (rd G h) ⟨r38, 1, none⟩ = some (.int .i64 x.client)) (x3 : hcell (rd G h) ⟨r38, 2, none⟩ = some (.int .i64 x.seq))
    (hK1 : x ∈ replayD (s.bk.done.take j) → ∀ h' n, Own G h' L → 0 ≤ n → K (.int .i64 n) h') (hK2 : x ∉ replayD (s.bk.done.take j) → ∀ h' n, Own G h' L → n < 0 → K (.int .i64 n) h') :
    Rq (0 ≤ jj ∧ jj < ((s.bk.done.length + 1 : Nat) : Int)) (NN dc1 fun a => LdSl G h (a.add (jj.toNat * 1)) fun xa xl xc => LdI G h .u8 ⟨r38, 0, none⟩ fun n1 => LdI G h .i64 ⟨r38, 1, none⟩ fun n2 => LdI G h .i64 ⟨r38, 2, none⟩ fun n3 => CallF Tryz.prog G 22 #[.slice xa xl xc, .agg #[.int .u8 n1, .int .i64 n2, .int .i64 n3]] K Kp h) := by
  subst hjj
  refine Rq.go (by omega) ?_
  rw [Int.toNat_natCast]
  obtain ⟨y, hyl, hyd, hyc⟩ := v.doc hj hO hc
  refine hyc hO hc _ fun a _ hce => LdSl.i hce (LdI.i x1 (LdI.i x2 (LdI.i x3 ?_)))
  have hDl := replayD_len s.bk.done j
  refine lawPlace (x := x) hO (hyd hc) (by omega) fun h' n hO h1 h2 => ?_
  rcases Int.lt_or_le n 0 with hn | hn
  · exact hK2 (h2 hn).2 h' n hO hn
  · exact hK1 (List.mem_of_getElem? (h1 hn).2) h' n hO hn
theorem lawRevLife {G h : Heap} {L : List Heap} {pa : Option Addr} {l c : Nat} {xs : List Pl4} {K : Value → Heap → Prop} {Kp : PK} (hT : Gt G) (hg : Gl G) (hw : Gw G) (hO : Own G h L) (hr : RdA G ePl pa l xs) (hsm : l ≤ 9223372036854775807)
    (hK : ∀ h', Own G h' L → K (.bool true) h') :
    CallF Tryz.prog G 6 #[.slice pa l c] K Kp h := by
  refine S6_ok ?_
  unfold S6
  refine lawRan rinvs hT hg hw hO hr hsm fun h p p2 s c1 c2 hs hq hp2 hpq hO => ⟨_, _, _, rfl, If.f rfl ?_⟩
  have hde := rinvs.de s hs
  have hed := rinvs.ed s hs
  have hfit := rinvs.fit s hs
  have hf := hs.b.fitl
  have hu := hs.b.apt
  have hN : s.bk.done.length ≤ 4000 := by omega
  obtain ⟨r, d, dc1, dc3, dn1, dn3, en, rv, hds, v⟩ := hq.view
  obtain rfl := v.hp
  refine LoopS.go (fun vs h' => ∃ (n : Nat), n ≤ s.bk.done.length + 1 ∧ vs = [.int .i64 n] ∧ Own G h' (c2 :: c1 :: L)) (fun vs _ => match vs with | [.int _ n] => (s.bk.done.length + 1 - n).toNat | _ => 0) ⟨0, by omega, rfl, hO⟩ ?_
  clear hO
  rintro jv vs h ⟨n, hn, rfl, hO⟩
  unfold S6_l5
  refine ⟨_, rfl, NN.go (LdSl.i (v.docs hO (by simp)) (If.dec (fun hlt => ?_) (fun hlt => ?_)))⟩
  · have hn2 : n ≤ s.bk.done.length := by omega
    obtain ⟨y, hyl, hyd, hyc⟩ := v.doc hn2 hO (by simp)
    have hDl := replayD_len s.bk.done n
    refine LoopS.go (fun vs h' => ∃ (i : Nat), i ≤ (replayD (s.bk.done.take n)).length ∧ vs = [.int .i64 i] ∧ Own G h' (c2 :: c1 :: L)) (fun vs _ => match vs with | [.int _ m] => ((replayD (s.bk.done.take n)).length - m).toNat | _ => 0) ⟨0, by omega, rfl, hO⟩ ?_
    clear hO
    rintro jv vs h ⟨i, hi, rfl, hO⟩
    unfold S6_l8
    refine ⟨_, rfl, NN.go (LdSl.i (v.docs hO (by simp)) (Rq.go (by omega) ?_))⟩
    rw [Int.toNat_natCast]
    refine hyc hO (by simp) _ fun a _ hce => LdSl.i hce ?_
    refine If.dec (fun hilt => ?_) (fun hilt => ?_)
    · refine NN.go (LdSl.i (v.docs hO (by simp)) (Rq.go (by omega) ?_))
      refine hyc hO (by simp) _ fun a _ hce => LdSl.i hce ?_
      refine Rq.go (by omega) ?_
      obtain ⟨x, hx, hn'⟩ := (hyd (L := c2 :: c1 :: L) (by simp)).at eElm_ok hO (i := (i : Int)) (by omega) (by omega)
      rw [Int.toNat_natCast] at hx hn'
      rw [Int.toNat_natCast]
      refine hn' _ fun a _ hc => LdI.i (hc 0 _ rfl) (LdI.i (hc 1 _ rfl) (LdI.i (hc 2 _ rfl) ?_))
      refine newK.go hO ?_
      clear hO; intro r38 h hO
      (repeat (with_reducible first | refine NN.go ?_ | refine LdI.g hO ?_ | refine LdSl.g hO ?_ | refine LdP.g hO ?_ | refine LdM.g hO ?_ | refine LdB.g hO ?_ | refine cell_g hO ?_ | refine Rq.go (by omega) ?_ | refine Rng.go (by omega) ?_ | (refine st1.g hO ?_; clear hO; intro h hO; dsimp only [ad, List.set] at hO)))
      have hxm : x ∈ replayD (s.bk.done.take n) := List.mem_of_getElem? hx
      obtain ⟨m, hmn, hins⟩ := (texts_ok hf hu n hn2).2 x hxm
      have hmN : m < s.bk.done.length := by omega
      have hborn := (born_ok hf hu x s.bk.done.length (Nat.le_refl _)).2 m hmN hins
      rw [List.take_length] at hborn
      have him := ins_mem hf hu hins
      refine pastBorn (r := (n : Int)) (i := (i : Int)) hO hpq hde hed hfit (by omega) (fun x' _ hx' h hO => ⟨_, _, rfl, ?_⟩) (fun e => absurd ⟨by omega, by rw [Int.toNat_natCast]; omega⟩ e)
      rw [Int.toNat_natCast, Int.toNat_natCast, hx] at hx'
      cases hx'
      rw [hborn, Option.getD_some]
      refine lawNum ⟨_, rfl, If.f rfl ?_⟩
      refine If.dec (fun e => by omega) fun _ => If.dec (fun e => by omega) fun _ => ?_
      have cells : ∀ {h : Heap}, Own G h (single r38 (.cells #[.int .u8 x.ch, .int .i64 x.client, .int .i64 x.seq] 63 (0, 0)) :: c2 :: c1 :: L) → hcell (rd G h) ⟨r38, 0, none⟩ = some (.int .u8 x.ch) ∧ hcell (rd G h) ⟨r38, 1, none⟩ = some (.int .i64 x.client) ∧ hcell (rd G h) ⟨r38, 2, none⟩ = some (.int .i64 x.seq) := fun {h} hO =>
        ⟨hcell_own hO inferInstance (by with_unfolding_all rfl), hcell_own hO inferInstance (by with_unfolding_all rfl), hcell_own hO inferInstance (by with_unfolding_all rfl)⟩
      refine NN.go (LdSl.i (v.docs hO (by simp)) ?_)
      refine docPlace v hO (by simp) hN (j := m + 1) (by omega) (by omega) (cells hO).1 (cells hO).2.1 (cells hO).2.2 (fun _ h q hO hq => ⟨_, rfl, ?_⟩) (fun e => absurd him.1 e)
      refine If.dec (fun e => by omega) fun _ => ?_
      refine NN.go (LdSl.i (v.docs hO (by simp)) (Rng.go (by omega) ?_))
      refine docPlace v hO (by simp) hN (j := m) (by omega) (by omega) (cells hO).1 (cells hO).2.1 (cells hO).2.2 (fun e => absurd e (him.2 m (Nat.le_refl _))) (fun _ h q hO hq => ⟨_, rfl, ?_⟩)
      rw [decide_eq_false (by omega)]
      unfold S6_k1
      refine If.f rfl ?_
      have nx : ∀ {h : Heap}, Own G h (single r38 (.cells #[.int .u8 x.ch, .int .i64 x.client, .int .i64 x.seq] 63 (0, 0)) :: c2 :: c1 :: L) → S6_k3 G K Kp i (fun vs' h' => (∃ (i : Nat), i ≤ (replayD (s.bk.done.take n)).length ∧ vs' = [.int .i64 i] ∧ Own G h' (c2 :: c1 :: L)) ∧ (match vs' with | [.int _ m] => ((replayD (s.bk.done.take n)).length - m).toNat | _ => 0) < (((replayD (s.bk.done.take n)).length : Int) - i).toNat) false h := fun {h} hO => by
        unfold S6_k3
        exact If.f rfl (Rng.go (by omega) ⟨⟨i + 1, by omega, rfl, hO.drop1⟩, by simp only; omega⟩)
      obtain ⟨o, ho, hk1, hox⟩ := id hins
      refine pastDied (r := (m : Int) + 1) hO hpq hde hed (fun o' _ ho' h hO => ⟨_, _, rfl, ?_⟩) (fun e => by omega)
      rw [show ((m : Int) + 1 - 1).toNat = m by omega, ho] at ho'
      cases ho'
      rw [if_pos hk1, hox]
      have hdok := died_ok hf hu x s.bk.done.length (Nat.le_refl _)
      rw [List.take_length] at hdok
      refine lawNum ⟨_, rfl, If.f rfl ?_⟩
      by_cases hdel : ∃ m', DelAt s.bk.done m' x
      · obtain ⟨m', hm'⟩ := hdel
        have hm'N : m' < s.bk.done.length := by obtain ⟨o2, ho2, _⟩ := hm'; exact (List.getElem?_eq_some_iff.1 ho2).1
        have hdm := del_mem hf hu hm'
        have hnm : n ≤ m' := by
          rcases Nat.lt_or_ge m' n with h1 | h1
          · exact absurd hxm (hdm.2 n h1 hn2)
          · exact h1
        rw [hdok.2 m' hm'N hm', Option.getD_some]
        refine If.t (by simp; omega) ?_
        refine If.dec (fun e => by omega) fun _ => ?_
        refine NN.go (LdSl.i (v.docs hO (by simp)) ?_)
        refine If.dec (fun e => by omega) fun _ => ?_
        refine NN.go (LdSl.i (v.docs hO (by simp)) (NN.go (LdSl.i (v.docs hO (by simp)) (Rng.go (by omega) ?_))))
        refine docPlace v hO (by simp) hN (j := s.bk.done.length) (Nat.le_refl _) (by omega) (cells hO).1 (cells hO).2.1 (cells hO).2.2 (fun e => absurd e (hdm.2 _ hm'N (Nat.le_refl _))) (fun _ h q hO hq => ⟨_, rfl, v.docs hO (by simp), ?_⟩)
        unfold S6_k2
        refine If.f (by rw [decide_eq_false (by omega)]; simp; omega) ?_
        refine If.t (by simp; omega) ?_
        refine NN.go (LdSl.i (v.docs hO (by simp)) ?_)
        refine docPlace v hO (by simp) hN (j := m' + 1) (by omega) (by omega) (cells hO).1 (cells hO).2.1 (cells hO).2.2 (fun e => absurd e (hdm.2 _ (by omega) (by omega))) (fun _ h q hO hq => ⟨_, rfl, ?_⟩)
        refine If.dec (fun e => by omega) fun _ => ?_
        refine NN.go (LdSl.i (v.docs hO (by simp)) (Rng.go (by omega) ?_))
        refine docPlace v hO (by simp) hN (j := m') (by omega) (by omega) (cells hO).1 (cells hO).2.1 (cells hO).2.2 (fun _ h q hO hq => ⟨_, rfl, ?_⟩) (fun e => absurd hdm.1 e)
        rw [decide_eq_false (by omega)]
        exact nx hO
      · have hno : ∀ m', ¬ DelAt s.bk.done m' x := fun m' h => hdel ⟨m', h⟩
        have hnone : (psOf s.bk.done).died x = none := by
          cases e : (psOf s.bk.done).died x with
          | none => rfl
          | some w => obtain ⟨m', _, _, h3⟩ := hdok.1 w e; exact absurd h3 (hno m')
        rw [hnone, Option.getD_none]
        refine If.f rfl ?_
        refine NN.go (LdSl.i (v.docs hO (by simp)) (NN.go (LdSl.i (v.docs hO (by simp)) (Rng.go (by omega) ?_))))
        refine docPlace v hO (by simp) hN (j := s.bk.done.length) (Nat.le_refl _) (by omega) (cells hO).1 (cells hO).2.1 (cells hO).2.2 (fun _ h q hO hq => ⟨_, rfl, ?_⟩) (fun e => absurd (stay_mem hf hu hxm (fun m' _ => hno m') _ hn2 (Nat.le_refl _)) e)
        unfold S6_k2
        refine If.f (by rw [decide_eq_true (by omega)]; rfl) ?_
        exact If.f rfl (nx hO)
    · unfold S6_k4
      refine NN.go (LdSl.i (v.docs hO (by simp)) (Rq.go (by omega) ?_))
      rw [Int.toNat_natCast]
      refine hyc hO (by simp) _ fun a _ hce => LdSl.i hce ?_
      refine pastBorn (r := (n : Int)) (i := ((y.2.1 : Nat) : Int)) hO hpq hde hed hfit (by omega) (fun x' _ hx' h hO => ?_) (fun _ h hO => ⟨_, _, rfl, ?_⟩)
      · rw [Int.toNat_natCast, Int.toNat_natCast, hyl, List.getElem?_eq_none (by omega)] at hx'
        cases hx'
      refine pastBorn (r := (n : Int)) (i := -1) hO hpq hde hed hfit (by omega) (fun x' h0 _ _ _ => by omega) (fun _ h hO => ⟨_, _, rfl, ?_⟩)
      refine lawNum ⟨_, rfl, If.f rfl ?_⟩
      refine lawNum ⟨_, rfl, ?_⟩
      unfold S6_k5
      exact If.f rfl (Rng.go (by omega) ⟨⟨n + 1, by omega, rfl, hO⟩, by simp only; omega⟩)
  · unfold S6_k6
    clear hlt hn n
    refine LoopS.go (fun vs h' => ∃ (n : Nat), n ≤ s.bk.done.length ∧ vs = [.int .i64 ((n + 1 : Nat) : Int)] ∧ Own G h' (c2 :: c1 :: L)) (fun vs _ => match vs with | [.int _ n] => (s.bk.done.length + 1 - n).toNat | _ => 0) ⟨0, by omega, rfl, hO⟩ ?_
    clear hO
    rintro jv vs h ⟨n, hn, rfl, hO⟩
    unfold S6_l24
    refine ⟨_, rfl, NN.go (LdSl.i (v.docs hO (by simp)) (If.dec (fun hlt => ?_) (fun hlt => ?_)))⟩
    · have hnN : n < s.bk.done.length := by omega
      refine pastDied (r := ((n + 1 : Nat) : Int)) hO hpq hde hed (fun o _ ho h hO => ⟨_, _, rfl, ?_⟩) (fun e => by omega)
      rw [show (((n + 1 : Nat) : Int) - 1).toNat = n by omega] at ho
      have nx : S6_k7 G K Kp ((n + 1 : Nat) : Int) (fun vs' h' => (∃ (n : Nat), n ≤ s.bk.done.length ∧ vs' = [.int .i64 ((n + 1 : Nat) : Int)] ∧ Own G h' (c2 :: c1 :: L)) ∧ (match vs' with | [.int _ n] => (s.bk.done.length + 1 - n).toNat | _ => 0) < ((s.bk.done.length : Int) + 1 - ((n + 1 : Nat) : Int)).toNat) false h := by
        unfold S6_k7
        exact If.f rfl (Rng.go (by omega) ⟨⟨n + 1, by omega, rfl, hO⟩, by simp only; omega⟩)
      refine lawNum ⟨_, rfl, If.f rfl ?_⟩
      refine If.mk (fun e => ?_) (fun e => nx)
      have hk1 : o.kind = 1 := by
        by_cases hk : o.kind = 1
        · exact hk
        · rw [if_neg hk] at e; simp at e
      obtain ⟨y, hyl, hyd, hyc⟩ := v.doc (k := n + 1) (by omega) hO (by simp)
      obtain ⟨z, hzl, hzd, hzc⟩ := v.doc (k := n) (by omega) hO (by simp)
      refine NN.go (LdSl.i (v.docs hO (by simp)) (Rq.go (by omega) ?_))
      rw [Int.toNat_natCast]
      refine hyc hO (by simp) _ fun a _ hce => LdSl.i hce ?_
      refine NN.go (LdSl.i (v.docs hO (by simp)) (Rng.go (by omega) (Rq.go (by omega) ?_)))
      rw [show (((n + 1 : Nat) : Int) - 1).toNat = n by omega]
      refine hzc hO (by simp) _ fun a _ hce => LdSl.i hce ?_
      have hfo := hf.at ho
      rw [show applyL [] (s.bk.done.take n) = replayD (s.bk.done.take n) from rfl] at hfo
      have hpos := hfo.pos
      have hlen : y.2.1 = z.2.1 + 1 := by rw [hyl, hzl, replayD_succ ho, app1 hk1, insL_len (by omega)]
      rw [decide_eq_false (by omega)]
      exact nx
    · unfold S6_k8
      refine pastDied (r := 0) hO hpq hde hed (fun o h0 _ _ _ => by omega) (fun _ h hO => ⟨_, _, rfl, ?_⟩)
      refine NN.go (LdSl.i (v.docs hO (by simp)) ?_)
      refine pastDied (r := ((s.bk.done.length + 1 : Nat) : Int)) hO hpq hde hed (fun o _ ho _ _ => ?_) (fun _ h hO => ⟨_, _, rfl, ?_⟩)
      · have := (List.getElem?_eq_some_iff.1 ho).1
        omega
      refine lawNum ⟨_, rfl, If.t rfl ?_⟩
      refine lawNum ⟨_, rfl, ?_⟩
      unfold S6_k9
      exact hK _ hO.drop1.drop1
end Go.Sl
