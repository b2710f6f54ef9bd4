/- RevisionBlame: the runs of every revision of a run's past cover its text, each of its own client; of every list of plays; the seven listed package variables hold what the text lays. Part 10 of 11. -/
import Derived.RowKit
import Derived.RowKitTokens
import Derived.JoinedOf
import Derived.Stop.Joined
import Derived.SevenTiedAt
import Derived.ChangeVars
import Derived.Test.YtdcgpdgokaephaaGreatDoorCards
import Derived.Test.YtdcgpdgokaephaaGreatDoorTie
import Derived.Test.YtdcgpdgokaephaaGreatDoorRb9
set_option linter.unusedVariables false
set_option linter.unusedSimpArgs false
set_option linter.unusedSectionVars false
set_option maxRecDepth 100000
namespace Go.Proofs.YtdcgpdgokaephaaGreatDoor
open Go Go.Sl Go.ChangeShapes Go.WideShapes Go.RowKit
theorem seatOwn : ownKnob Tryz.prog.godebug = none := by kernel_rfl
theorem seatLaidOut : laidOutB Tryz.prog = true := by kernel_rfl
/-- The door's own heap meets the condition. -/
theorem door_met (os : Os) (args : Array Value) : laidMetH Tryz.prog laidL ((World.doorLaid Tryz.prog 600 os).forCall (fun _ _ => 0) ⟨#[], args, []⟩).memory :=
  laidMetH_of_parts3 (fuel := 8) (laidMet_of_run' 8 (by kernel_rfl) (by kernel_rfl)) (by kernel_rfl) (by kernel_rfl)
theorem plays_of {H : Type} {enc : TypeId × Value → H} {W : World} {v : Value} {d : DataW H} {p : List MemPlace} {r : Reach} {b : Nat} (hv : Value.okWide Tryz.prog W r b 22 v) (h : DataW.Trod enc Tryz.prog W 0 (fun _ => true) true 22 v d p) :
    ∃ pa l c xs, v = .slice pa l c ∧ RdA (Wh W) ePl pa l xs ∧ l ≤ 9223372036854775807 := by
  refine slice_of ePl_ok Tryz.underlying22 (by kernel_rfl) (fun n cs y hy => ?_) hv h
  obtain ⟨xs, n, _, _, hl, hn, hf⟩ := DataW.trod_struct Tryz.underlying90 hy
  rw [show Tryz.prog.cellsOf 90 = 4 by kernel_rfl] at hl
  match cs, hl with
  | [c0, c1, c2, c3], _ =>
    have one : ∀ (i : Nat) (f : Field) (c : Value), i < xs.length → (#[Field.mk "Kind" 3 0 false "" "" 0, Field.mk "Who" 3 1 false "" "" 8, Field.mk "At" 3 2 false "" "" 16, Field.mk "Ch" 3 3 false "" "" 24] : Array Field)[i]? = some f → f.type = 3 → ([c0, c1, c2, c3].drop f.offset).take 1 = [c] → ∃ z, c = .int .i64 z := fun i f c hi h1 h2 h3 => by
      have h4 := hf i f h1
      rw [h2, show Tryz.prog.cellsOf 3 = 1 by kernel_rfl, h3, List.getElem?_eq_getElem hi] at h4
      obtain ⟨z, h5, _⟩ := DataW.trod_int Tryz.underlying3 h4
      cases h5
      exact ⟨z, rfl⟩
    have hn4 : xs.length = 4 := hn
    obtain ⟨z0, rfl⟩ := one 0 _ c0 (by omega) rfl rfl rfl
    obtain ⟨z1, rfl⟩ := one 1 _ c1 (by omega) rfl rfl rfl
    obtain ⟨z2, rfl⟩ := one 2 _ c2 (by omega) rfl rfl rfl
    obtain ⟨z3, rfl⟩ := one 3 _ c3 (by omega) rfl rfl rfl
    exact ⟨(z0, z1, z2, z3), rfl⟩
end Go.Proofs.YtdcgpdgokaephaaGreatDoor
set_option maxRecDepth 100000
namespace Go.Sl
open Go Go.Proofs
/-- What can be read of a run, wherever it is owned. -/
structure RView (p : Option Addr) (s : Ru) (c : Heap) (r : Nat) (d : Option Addr) (dc1 : Option Addr) (dc3 : Nat) (dn1 : Option Addr) (dn3 : Nat) (en rv : Hdr) (hds : List Hdr) : Prop where
  hp : p = some ⟨r, 0, none⟩
  disk : ∀ {G h : Heap} {L : List Heap}, Own G h L → c ∈ L → hcell (rd G h) ⟨r, 0 + 3, none⟩ = some (.pointer d)
  docs : ∀ {G h : Heap} {L : List Heap}, Own G h L → c ∈ L → hcell (rd G h) ⟨r, 0 + 14, none⟩ = some (.slice dc1 (s.bk.done.length + 1) dc3)
  done : ∀ {G h : Heap} {L : List Heap}, Own G h L → c ∈ L → hcell (rd G h) ⟨r, 0 + 15, none⟩ = some (.slice dn1 s.bk.done.length dn3)
  ends : ∀ {G h : Heap} {L : List Heap}, Own G h L → c ∈ L → hcell (rd G h) ⟨r, 0 + 16, none⟩ = some (.slice en.1 en.2.1 en.2.2)
  revs : ∀ {G h : Heap} {L : List Heap}, Own G h L → c ∈ L → hcell (rd G h) ⟨r, 0 + 17, none⟩ = some (.slice rv.1 rv.2.1 rv.2.2)
  dl : ∀ {L : List Heap}, c ∈ L → Rdl L eDc dc1 (s.bk.done.length + 1) hds
  hl : hds.length = s.bk.done.length + 1
  dd : ∀ {k : Nat} {y : Hdr}, hds[k]? = some y → k ≤ s.bk.done.length → ∀ {L : List Heap}, c ∈ L → Rdl L eElm y.1 y.2.1 (replayD (s.bk.done.take k))
  el : ∀ {L : List Heap}, c ∈ L → Rdl L eI en.1 en.2.1 (endsI s.its)
  rl : ∀ {L : List Heap}, c ∈ L → Rdl L eI rv.1 rv.2.1 (revsI s.its)
theorem mem_perm {c : Heap} {L : List Heap} (h : c ∈ L) : ∃ R, (c :: R).Perm L := by
  obtain ⟨a, b, rfl⟩ := List.append_of_mem h
  exact ⟨a ++ b, List.perm_middle.symm⟩
theorem RunP.view {p : Option Addr} {s : Ru} {c : Heap} (hq : RunP p s c) : ∃ r d dc1 dc3 dn1 dn3 en rv hds, RView p s c r d dc1 dc3 dn1 dn3 en rv hds := by
  obtain ⟨d, b, r, C, M, dc, dn, en, rv, hds, dcs, cc, cm, cb, c1, c2, c3, c4, hp, hcl, hb, hm, hd1, hd2, hdn, hen, hrv, hj⟩ := hq
  obtain ⟨dn1, dn2, dn3⟩ := dn
  obtain ⟨dc1, dc2, dc3⟩ := dc
  simp only at hdn hd1
  have e3 := hdn.len
  have e4 := hd1.len
  have e5 := hd2.l1
  have e6 := hd2.l2
  rw [docsOf_len] at e5 e6
  rw [e5] at e4
  subst e3
  subst e4
  have op : ∀ {G h : Heap} {L R : List Heap}, Own G h L → (c :: R).Perm L → Own G h (single r (ruB C d b M (fun i => s.has i) (fun i => s.down i) (dc1, s.bk.done.length + 1, dc3) (dn1, s.bk.done.length, dn3) en rv s.boots) :: cb :: cc 0 :: cc 1 :: cc 2 :: cm 0 :: cm 1 :: cm 2 :: c1 :: c2 :: c3 :: c4 :: (dcs ++ R)) := fun hO hR => (hO.perm hR.symm.symm).openJ hj |> fun h => h
  refine ⟨r, d, dc1, dc3, dn1, dn3, en, rv, hds, hp, ?_, ?_, ?_, ?_, ?_, ?_, e5, ?_, ?_, ?_⟩
  · intro G h L hO hc; obtain ⟨R, hR⟩ := mem_perm hc; exact hcell_own (op hO hR) inferInstance (by with_unfolding_all rfl)
  · intro G h L hO hc; obtain ⟨R, hR⟩ := mem_perm hc; exact hcell_own (op hO hR) inferInstance (by with_unfolding_all rfl)
  · intro G h L hO hc; obtain ⟨R, hR⟩ := mem_perm hc; exact hcell_own (op hO hR) inferInstance (by with_unfolding_all rfl)
  · intro G h L hO hc; obtain ⟨R, hR⟩ := mem_perm hc; exact hcell_own (op hO hR) inferInstance (by with_unfolding_all rfl)
  · intro G h L hO hc; obtain ⟨R, hR⟩ := mem_perm hc; exact hcell_own (op hO hR) inferInstance (by with_unfolding_all rfl)
  · intro L hc G h hO
    obtain ⟨R, hR⟩ := mem_perm hc
    exact (hd1.rdO (op hO hR) (by simp)) _ _ (op hO hR)
  · intro k y hy hk L hc G h hO
    obtain ⟨R, hR⟩ := mem_perm hc
    have hcc : dcs[k]? = some (dcs[k]'(by omega)) := List.getElem?_eq_getElem _
    exact hd2.rd k y _ _ hy (docsOf_get hk) hcc _ (by simp [List.getElem_mem]) _ _ (op hO hR)
  · intro L hc G h hO
    obtain ⟨R, hR⟩ := mem_perm hc
    exact (hen.rdO (op hO hR) (by simp)) _ _ (op hO hR)
  · intro L hc G h hO
    obtain ⟨R, hR⟩ := mem_perm hc
    exact (hrv.rdO (op hO hR) (by simp)) _ _ (op hO hR)
/-- One text of a run, read. -/
theorem RView.doc {p : Option Addr} {s : Ru} {c : Heap} {r : Nat} {d dc1 : Option Addr} {dc3 : Nat} {dn1 : Option Addr} {dn3 : Nat} {en rv : Hdr} {hds : List Hdr} (v : RView p s c r d dc1 dc3 dn1 dn3 en rv hds) {k : Nat} (hk : k ≤ s.bk.done.length) {G0 h0 : Heap} {L0 : List Heap} (hO0 : Own G0 h0 L0) (hc0 : c ∈ L0) :
    ∃ y : Hdr, y.2.1 = (replayD (s.bk.done.take k)).length ∧ (∀ {L : List Heap}, c ∈ L → Rdl L eElm y.1 y.2.1 (replayD (s.bk.done.take k))) ∧
      ∀ {G h : Heap} {L : List Heap}, Own G h L → c ∈ L → ∀ K, (∀ a, dc1 = some a → hcell (rd G h) (a.add (k * 1)) = some (.slice y.1 y.2.1 y.2.2) → K a) → NN dc1 K := by
  have hl := v.hl
  have hy : hds[k]? = some (hds[k]'(by omega)) := List.getElem?_eq_getElem _
  generalize hds[k]'(by omega) = y at hy
  refine ⟨y, ?_, v.dd hy hk, fun {G h L} hO hc K hK => ?_⟩
  · exact (v.dd hy hk hc0).len hO0
  · obtain ⟨y2, hy2, hn'⟩ := (v.dl hc).at eDc_ok hO (i := (k : Int)) (by omega) (by omega)
    rw [Int.toNat_natCast] at hy2 hn'
    rw [hy] at hy2
    cases hy2
    exact hn' K fun a ha hcell => hK a ha (hcell 0 _ rfl)
end Go.Sl
set_option maxRecDepth 100000
namespace Go.Sl
open Go Go.Proofs
/-- A run of characters of one client. -/
structure Rn where
  client : Int
  frm : Int
  to : Int
def eRn : En Rn := ⟨61, 3, fun x => [.int .i64 x.client, .int .i64 x.frm, .int .i64 x.to], ⟨0, 0, 0⟩⟩
theorem eRn_ok : eRn.Ok := ⟨fun _ => rfl, by decide, fun x v hv => by simp [eRn] at hv; rcases hv with rfl | rfl | rfl <;> rfl⟩
theorem tRn : SlT Tryz.prog 57 eRn := ⟨eRn_ok, rfl, ⟨_, rfl, rfl, by decide, _, rfl, rfl⟩⟩
/-- What the runs of the first n characters are. -/
structure BlOk (d : List Elm) (n : Nat) (rs : List Rn) : Prop where
  hd : ∀ r, rs[0]? = some r → r.frm = 0
  la : ∀ r, rs[rs.length - 1]? = some r → r.to = n
  nn : rs = [] → n = 0
  el : ∀ (i : Nat) (r : Rn), rs[i]? = some r → 0 ≤ r.frm ∧ r.frm < r.to ∧ r.to ≤ n ∧ ∀ j : Nat, r.frm ≤ j → (j : Int) < r.to → ∃ e, d[j]? = some e ∧ e.client = r.client
  ch : ∀ (i : Nat) (r r' : Rn), rs[i]? = some r → rs[i + 1]? = some r' → r'.frm = r.to ∧ r'.client ≠ r.client
theorem BlOk.zero (d : List Elm) : BlOk d 0 [] := ⟨fun r h => by simp at h, fun r h => by simp at h, fun _ => rfl, fun i r h => by simp at h, fun i r r' h => by simp at h⟩
theorem BlOk.len {d : List Elm} {n : Nat} {rs : List Rn} (h : BlOk d n rs) : rs.length ≤ n := by
  have key : ∀ (i : Nat) (r : Rn), rs[i]? = some r → (i : Int) + 1 ≤ r.to := fun i => by
    induction i with
    | zero => intro r hr; have := h.hd r hr; have := (h.el 0 r hr).2.1; omega
    | succ i ih =>
      intro r hr
      have hl := (List.getElem?_eq_some_iff.1 hr).1
      have hr0 : rs[i]? = some (rs[i]'(by omega)) := List.getElem?_eq_getElem _
      have h1 := ih _ hr0
      have h2 := (h.ch i _ _ hr0 hr).1
      have h3 := (h.el _ _ hr).2.1
      omega
  rcases Nat.eq_zero_or_pos rs.length with h0 | h0
  · omega
  · have hr : rs[rs.length - 1]? = some (rs[rs.length - 1]'(by omega)) := List.getElem?_eq_getElem _
    have h1 := key _ _ hr
    have h2 := (h.el _ _ hr).2.2.1
    omega
theorem BlOk.grow {d : List Elm} {n : Nat} {rs : List Rn} (h : BlOk d n rs) {e : Elm} (he : d[n]? = some e) {r : Rn} (hr : rs[rs.length - 1]? = some r) (hc : r.client = e.client) : BlOk d (n + 1) (rs.set (rs.length - 1) { r with to := r.to + 1 }) := by
  have hl := (List.getElem?_eq_some_iff.1 hr).1
  have hto := h.la r hr
  have he2 := h.el _ r hr
  have get : ∀ (i : Nat) (x : Rn), (rs.set (rs.length - 1) { r with to := r.to + 1 })[i]? = some x → (i = rs.length - 1 ∧ x = { r with to := r.to + 1 }) ∨ (i ≠ rs.length - 1 ∧ rs[i]? = some x) := fun i x hx => by
    by_cases hi : rs.length - 1 = i
    · subst hi
      rw [List.getElem?_set_self hl] at hx
      exact .inl ⟨rfl, by cases hx; rfl⟩
    · rw [List.getElem?_set_ne hi] at hx
      exact .inr ⟨Ne.symm hi, hx⟩
  refine ⟨fun x hx => ?_, fun x hx => ?_, fun hx => ?_, fun i x hx => ?_, fun i x x' hx hx' => ?_⟩
  · rcases get _ _ hx with ⟨h1, rfl⟩ | ⟨_, h1⟩
    · exact h.hd r (by rw [h1]; exact hr)
    · exact h.hd x h1
  · rw [List.length_set] at hx
    rcases get _ _ hx with ⟨_, rfl⟩ | ⟨h1, _⟩
    · simp only; omega
    · exact absurd rfl h1
  · have := congrArg List.length hx
    rw [List.length_set] at this
    simp at this
    subst this
    simp at hl
  · rcases get _ _ hx with ⟨_, rfl⟩ | ⟨_, h1⟩
    · refine ⟨he2.1, by simp only; omega, by simp only; omega, fun j h1 h2 => ?_⟩
      simp only at h1 h2
      by_cases hj : (j : Int) < r.to
      · exact he2.2.2.2 j h1 hj
      · have : j = n := by omega
        subst this
        exact ⟨e, he, hc.symm⟩
    · have := h.el i x h1
      exact ⟨this.1, this.2.1, by omega, this.2.2.2⟩
  · have hl' := (List.getElem?_eq_some_iff.1 hx').1
    rw [List.length_set] at hl'
    rcases get _ _ hx with ⟨h1, rfl⟩ | ⟨_, h1⟩
    · omega
    · rcases get _ _ hx' with ⟨h2, rfl⟩ | ⟨_, h2⟩
      · exact h.ch i x r h1 (by rw [h2]; exact hr)
      · exact h.ch i x x' h1 h2
theorem BlOk.push {d : List Elm} {n : Nat} {rs : List Rn} (h : BlOk d n rs) {e : Elm} (he : d[n]? = some e) (hc : ∀ r, rs[rs.length - 1]? = some r → r.client ≠ e.client) : BlOk d (n + 1) (rs ++ [⟨e.client, n, n + 1⟩]) := by
  have get : ∀ (i : Nat) (x : Rn), (rs ++ [(⟨e.client, n, n + 1⟩ : Rn)])[i]? = some x → (i = rs.length ∧ x = ⟨e.client, n, n + 1⟩) ∨ (i < rs.length ∧ rs[i]? = some x) := fun i x hx => by
    have hi := (List.getElem?_eq_some_iff.1 hx).1
    rw [List.length_append, List.length_singleton] at hi
    rcases Nat.lt_or_ge i rs.length with h1 | h1
    · rw [List.getElem?_append_left h1] at hx; exact .inr ⟨h1, hx⟩
    · have : i = rs.length := by omega
      subst this
      rw [List.getElem?_append_right (by omega)] at hx
      simp only [Nat.sub_self, List.getElem?_cons_zero, Option.some.injEq] at hx
      exact .inl ⟨rfl, hx.symm⟩
  refine ⟨fun x hx => ?_, fun x hx => ?_, fun hx => ?_, fun i x hx => ?_, fun i x x' hx hx' => ?_⟩
  · rcases get _ _ hx with ⟨h1, rfl⟩ | ⟨_, h1⟩
    · have : rs = [] := List.length_eq_zero_iff.1 h1.symm
      have := h.nn this
      simp only; omega
    · exact h.hd x h1
  · rw [List.length_append, List.length_singleton] at hx
    rcases get _ _ hx with ⟨_, rfl⟩ | ⟨h1, _⟩
    · simp only; omega
    · omega
  · simp at hx
  · rcases get _ _ hx with ⟨_, rfl⟩ | ⟨_, h1⟩
    · refine ⟨by simp only; omega, by simp only; omega, by simp only; omega, fun j h1 h2 => ?_⟩
      simp only at h1 h2
      have : j = n := by omega
      subst this
      exact ⟨e, he, rfl⟩
    · have := h.el i x h1
      exact ⟨this.1, this.2.1, by omega, this.2.2.2⟩
  · rcases get _ _ hx with ⟨h1, rfl⟩ | ⟨h1, h2⟩
    · rcases get _ _ hx' with ⟨h3, _⟩ | ⟨h3, _⟩ <;> omega
    · rcases get _ _ hx' with ⟨h3, rfl⟩ | ⟨_, h4⟩
      · have e1 : i = rs.length - 1 := by omega
        rw [e1] at h2
        exact ⟨(h.la x h2).symm, fun e => hc x h2 e.symm⟩
      · exact h.ch i x x' h2 h4
end Go.Sl
set_option maxRecDepth 100000
namespace Go.Sl
open Go Go.Proofs
theorem pastBlame {G h : Heap} {L R : List Heap} {p : Option Addr} {y : Bk} {ps : PS} {c : Heap} {r : Int} {K : Value → Heap → Prop} {Kp : PK} (hO : Own G h L) [t : Take L c R] (hq : PastP p y ps c) (hde : y.done.length = y.edits.length) (hsm : y.edits.length ≤ 4000) (hfit : Fit y.done)
    (hK1 : (0 ≤ r ∧ r ≤ y.edits.length) → ∀ h' p' l' c' pc rs, Sli eRn p' l' c' rs pc → BlOk (replayD (y.done.take r.toNat)) (replayD (y.done.take r.toNat)).length rs → Own G h' (pc :: L) → K (.tuple #[.slice p' l' c', .int .i64 0]) h')
    (hK2 : ¬ (0 ≤ r ∧ r ≤ y.edits.length) → ∀ h' p' l' c', Own G h' L → K (.tuple #[.slice p' l' c', .int .i64 180]) h') : CallF Tryz.prog G 20 #[.pointer p, .int .i64 r] K Kp h := by
  refine S20_ok ?_
  unfold S20
  have main : ∀ {q : Option Addr} {l : Nat} {d : List Elm} {M : List Heap} {h : Heap} {e : Int}, Own G h (M ++ L) → Rdl (M ++ L) eElm q l d → l ≤ 100000 → (∀ h' p' l' c' pc rs, Sli eRn p' l' c' rs pc → BlOk d l rs → Own G h' (pc :: L) → K (.tuple #[.slice p' l' c', .int .i64 e]) h') →
      LoopS [.slice none 0 0, .int .i64 0] h (S20_l4 G K Kp l q e) := fun {q l d M h e} hO hr hsm hK => by
    have hl := hr.len hO
    refine LoopS.go (fun vs h' => ∃ (n : Nat) (b : Option Addr) (m k : Nat) (rs : List Rn) (pc : Heap), n ≤ l ∧ vs = [.slice b m k, .int .i64 n] ∧ Sli eRn b m k rs pc ∧ BlOk d n rs ∧ Own G h' (pc :: (M ++ L))) (fun vs _ => match vs with | [_, .int _ n] => (l - n).toNat | _ => 0) ⟨0, none, 0, 0, [], emp, by omega, rfl, .no, BlOk.zero _, hO.addEmp0⟩ ?_
    clear hO
    rintro jv vs h ⟨n, b, m, k, rs, pc, hn, rfl, hs, hbl, hO⟩
    unfold S20_l4
    have hm := hs.len
    have hml := hbl.len
    refine ⟨_, _, _, _, rfl, If.dec (fun hlt => ?_) (fun hlt => ?_)⟩
    · refine Rq.go ⟨by omega, hlt⟩ ?_
      obtain ⟨x, hx, hn'⟩ := (hr.cons pc).at eElm_ok hO (i := (n : Int)) (by omega) hlt
      have hx' : d[n]? = some x := by simpa using hx
      refine hn' _ fun a _ hc => ?_
      refine LdI.i (hc 0 _ rfl) (LdI.i (hc 1 _ rfl) (LdI.i (hc 2 _ rfl) ?_))
      refine newK.go hO ?_
      clear hO; intro r18 h hO
      (repeat (first | with_reducible refine NN.go ?_ | with_reducible refine LdI.go hO (by with_unfolding_all rfl) ?_ | with_reducible refine LdSl.go hO (by with_unfolding_all rfl) ?_ | with_reducible refine LdP.go hO (by with_unfolding_all rfl) ?_ | with_reducible refine LdM.go hO (by with_unfolding_all rfl) ?_ | with_reducible refine LdB.go hO (by with_unfolding_all rfl) ?_ | with_reducible refine cell_go hO (by with_unfolding_all rfl) ?_ | with_reducible refine Rq.go (by omega) ?_ | with_reducible refine Rng.go (by omega) ?_ | (with_reducible refine st1.go hO (by with_unfolding_all rfl) ?_; clear hO; intro h hO; dsimp only [ad, List.set] at hO)))
      have push : (∀ r, rs[rs.length - 1]? = some r → r.client ≠ x.client) → S20_k1 G K Kp m b k r18 n (fun vs' h' => (∃ (n : Nat) (b : Option Addr) (m k : Nat) (rs : List Rn) (pc : Heap), n ≤ l ∧ vs' = [.slice b m k, .int .i64 n] ∧ Sli eRn b m k rs pc ∧ BlOk d n rs ∧ Own G h' (pc :: (M ++ L))) ∧ (match vs' with | [_, .int _ n] => (l - n).toNat | _ => 0) < ((l : Int) - n).toNat) false h := fun hcl => by
        unfold S20_k1
        refine If.f rfl ?_
        (repeat (first | with_reducible refine NN.go ?_ | with_reducible refine LdI.go hO (by with_unfolding_all rfl) ?_ | with_reducible refine LdSl.go hO (by with_unfolding_all rfl) ?_ | with_reducible refine LdP.go hO (by with_unfolding_all rfl) ?_ | with_reducible refine LdM.go hO (by with_unfolding_all rfl) ?_ | with_reducible refine LdB.go hO (by with_unfolding_all rfl) ?_ | with_reducible refine cell_go hO (by with_unfolding_all rfl) ?_ | with_reducible refine Rq.go (by omega) ?_ | with_reducible refine Rng.go (by omega) ?_ | (with_reducible refine st1.go hO (by with_unfolding_all rfl) ?_; clear hO; intro h hO; dsimp only [ad, List.set] at hO)))
        refine newK.go hO ?_
        clear hO; intro r27 h hO
        refine append1 tRn hO hs (y := ⟨x.client, n, n + 1⟩) rfl (by omega) fun h b' k' pc' hs' hO => ⟨_, _, _, rfl, ?_⟩
        unfold S20_k2
        exact Rng.go (by omega) ⟨⟨n + 1, b', m + 1, k', _, pc', by omega, rfl, hs', hbl.push hx' hcl, hO.drop2⟩, by simp only; omega⟩
      refine If.dec (fun hm0 => ?_) (fun hm0 => ?_)
      · obtain ⟨b0, rfl⟩ := Sli_ex hs (by omega)
        refine Rng.go (by omega) (Rq.go (by omega) (NN.go ?_))
        have hi : (((m : Nat) : Int) - 1).toNat = rs.length - 1 := by omega
        have hy : rs[rs.length - 1]? = some (rs[rs.length - 1]'(by omega)) := List.getElem?_eq_getElem _
        generalize rs[rs.length - 1]'(by omega) = y at hy
        have hrd := (hs.rdO hO (by simp)) _ _ hO
        rw [hi, add_mk]
        refine LdI.i (hrd.cell eRn_ok rfl hy (j := 0) rfl) ?_
        refine LdI.go hO (by with_unfolding_all rfl) ?_
        have hyb := hbl.el _ _ hy
        cases hcl : (y.client == x.client) with
        | false =>
          refine push fun r hr e => ?_
          rw [hy] at hr
          cases hr
          simp [e] at hcl
        | true =>
          have hce : y.client = x.client := by simpa using hcl
          unfold S20_k1
          refine If.t rfl (Rng.go (by omega) (Rq.go (by omega) (NN.go ?_)))
          rw [hi, add_mk]
          refine LdI.i (hrd.cell eRn_ok rfl hy (j := 2) rfl) ?_
          refine Rng.go (by omega) (Rq.go (by omega) (NN.go ?_))
          rw [add_mk]
          refine Sli_st eRn_ok (y := { y with to := y.to + 1 }) (j := 2) (R := M ++ L) (hO.sp (M := pc :: (M ++ L)) fun a => by simp only [cnt_app, List.append_eq, cnt_cons, cnt_nil]; omega) hs (.refl _) hy (by decide) rfl rfl (a := ⟨b0, 0, none⟩) rfl rfl fun h pc' hs' hO => ?_
          unfold S20_k2
          exact Rng.go (by omega) ⟨⟨n + 1, _, m, k, _, pc', by omega, rfl, hs', hbl.grow hx' hy hce, hO⟩, by simp only; omega⟩
      · have h0 : rs = [] := List.length_eq_zero_iff.1 (by omega)
        exact push fun r hr => by rw [h0] at hr; simp at hr
    · have hnl : n = l := by omega
      subst hnl
      unfold S20_k3
      exact hK _ _ _ _ _ _ hs hbl (hO.sp fun a => by simp only [cnt_app, List.append_eq, cnt_cons, cnt_nil]; omega)
  refine pastText hO hq hde hsm hfit (fun hr h p' l' c' pc hs hO => ⟨_, _, _, _, rfl, ?_⟩) (fun hr => ⟨_, _, _, _, rfl, ?_⟩)
  · have hl := hs.len
    have := replayD_len (y.done.take r.toNat) (y.done.take r.toNat).length
    rw [List.take_length, List.length_take] at this
    exact main (M := [pc]) hO (hs.rdO hO (by simp)) (by omega) fun h p' l' c' pc rs h1 h2 h3 => hK1 hr h p' l' c' pc rs h1 (by rw [← hl]; exact h2) h3
  · exact main (M := []) (d := []) hO (Rdl.nil _ _) (by omega) fun h p' l' c' pc rs h1 h2 h3 => hK2 hr h p' l' c' h3.drop1
end Go.Sl
set_option maxRecDepth 100000
namespace Go.Sl
open Go Go.Proofs
theorem lawRevBlame {G h : Heap} {L : List Heap} {pa : Option Addr} {l c : Nat} {xs : List Pl4} {I : Ru → Prop} {K : Value → Heap → Prop} {Kp : PK} (hI : Invs I) (hT : Gt G) (hg : Gl G) (hw : Gw G) (hO : Own G h L) (hr : RdA G ePl pa l xs) (hsm : l ≤ 9223372036854775807)
    (hK : ∀ h', Own G h' L → K (.bool true) h') :
    CallF Tryz.prog G 5 #[.slice pa l c] K Kp h := by
  refine S5_ok ?_
  unfold S5
  refine lawRan hI hT hg hw hO hr hsm fun h p p2 s c1 c2 hs hq hp2 hpq hO => ⟨_, _, _, rfl, If.f rfl ?_⟩
  have hde := hI.de s hs
  have hed := hI.ed s hs
  have hfit := hI.fit s hs
  obtain ⟨r, d, dc1, dc3, dn1, dn3, en, rv, hds, v⟩ := hq.view
  obtain rfl := v.hp
  refine LoopS.go (fun vs h' => ∃ (n : Nat), n ≤ s.bk.done.length + 1 ∧ vs = [.int .i64 n] ∧ Own G h' (c2 :: c1 :: L)) (fun vs _ => match vs with | [.int _ n] => (s.bk.done.length + 1 - n).toNat | _ => 0) ⟨0, by omega, rfl, hO⟩ ?_
  clear hO
  rintro jv vs h ⟨n, hn, rfl, hO⟩
  unfold S5_l5
  refine ⟨_, rfl, NN.go (LdSl.i (v.docs hO (by simp)) (If.dec (fun hlt => ?_) (fun hlt => ?_)))⟩
  · have hn2 : n ≤ s.bk.done.length := by omega
    refine pastBlame (r := (n : Int)) hO hpq hde hed hfit (fun _ h p' l' c' pc rs hsl hbl hO => ⟨_, _, _, _, rfl, ?_⟩) (fun e => absurd ⟨by omega, by omega⟩ e)
    refine lawNum ⟨_, rfl, If.f rfl ?_⟩
    rw [Int.toNat_natCast] at hbl
    obtain ⟨y, hyl, hyd, hyc⟩ := v.doc hn2 hO (by simp)
    generalize hD : replayD (s.bk.done.take n) = D at hbl hyl hyd
    have hDl : D.length ≤ 4000 := by rw [← hD]; have := replayD_len s.bk.done n; omega
    have hll := hsl.len
    subst hll
    have hrl := hbl.len
    refine LoopS.go (fun vs h' => ∃ (i : Nat) (at_ : Int), i ≤ rs.length ∧ vs = [.int .i64 at_, .int .i64 i] ∧ (i = 0 → at_ = 0) ∧ (∀ r, 1 ≤ i → rs[i - 1]? = some r → at_ = r.to) ∧ Own G h' (pc :: c2 :: c1 :: L)) (fun vs _ => match vs with | [_, .int _ n] => (rs.length - n).toNat | _ => 0) ⟨0, 0, by omega, rfl, fun _ => rfl, fun _ h => by omega, hO⟩ ?_
    clear hO
    rintro jv vs h ⟨i, at_, hi, rfl, ha0, ha1, hO⟩
    unfold S5_l12
    refine ⟨_, _, rfl, If.dec (fun hilt => ?_) (fun hilt => ?_)⟩
    · have hi2 : i < rs.length := by omega
      obtain ⟨b0, rfl⟩ := Sli_ex hsl (by omega)
      have hx : rs[i]? = some (rs[i]'hi2) := List.getElem?_eq_getElem _
      generalize rs[i]'hi2 = x at hx
      have hrd : ∀ {h : Heap}, Own G h (pc :: c2 :: c1 :: L) → RdS G h eRn (some ⟨b0, 0, none⟩) rs.length rs := fun hO => (hsl.rdO hO (by simp)) _ _ hO
      have hel := hbl.el _ _ hx
      have hfr : x.frm = at_ := by
        rcases Nat.eq_zero_or_pos i with h0 | h0
        · rw [ha0 h0, hbl.hd x (by rw [← h0]; exact hx)]
        · have hx0 : rs[i - 1]? = some (rs[i - 1]'(by omega)) := List.getElem?_eq_getElem _
          rw [ha1 _ h0 hx0]
          exact (hbl.ch (i - 1) _ x hx0 (by rw [show i - 1 + 1 = i by omega]; exact hx)).1
      refine Rq.go ⟨by omega, hilt⟩ (NN.go ?_)
      rw [Int.toNat_natCast, add_mk]
      refine LdI.i ((hrd hO).cell eRn_ok rfl hx (j := 1) rfl) ?_
      refine If.f (by simp [hfr]) ?_
      refine Rq.go ⟨by omega, hilt⟩ (NN.go ?_)
      rw [add_mk]
      refine LdI.i ((hrd hO).cell eRn_ok rfl hx (j := 2) rfl) ?_
      refine If.dec (fun e => by omega) fun _ => ?_
      refine Rq.go ⟨by omega, hilt⟩ (NN.go ?_)
      rw [add_mk]
      refine LdI.i ((hrd hO).cell eRn_ok rfl hx (j := 2) rfl) ?_
      refine NN.go (LdSl.i (v.docs hO (by simp)) (Rq.go (by omega) ?_))
      rw [Int.toNat_natCast]
      refine hyc hO (by simp) _ fun a _ hcell => LdSl.i hcell ?_
      refine If.dec (fun e => by omega) fun _ => ?_
      have goon : S5_k1 G K Kp i rs.length (some ⟨b0, 0, none⟩) (some ⟨r, 0, none⟩) n (fun vs' h' => (∃ (i : Nat) (at_ : Int), i ≤ rs.length ∧ vs' = [.int .i64 at_, .int .i64 i] ∧ (i = 0 → at_ = 0) ∧ (∀ r, 1 ≤ i → rs[i - 1]? = some r → at_ = r.to) ∧ Own G h' (pc :: c2 :: c1 :: L)) ∧ (match vs' with | [_, .int _ n] => (rs.length - n).toNat | _ => 0) < ((rs.length : Int) - i).toNat) false h := by
        unfold S5_k1
        refine If.f rfl (Rq.go ⟨by omega, hilt⟩ (NN.go ?_))
        rw [Int.toNat_natCast, add_mk]
        refine LdI.i ((hrd hO).cell eRn_ok rfl hx (j := 1) rfl) ?_
        refine LoopS.go (fun vs h' => ∃ (j : Nat), x.frm ≤ j ∧ (j : Int) ≤ x.to ∧ vs = [.int .i64 j] ∧ Own G h' (pc :: c2 :: c1 :: L)) (fun vs _ => match vs with | [.int _ n] => (x.to - n).toNat | _ => 0) ⟨x.frm.toNat, by omega, by omega, by rw [Int.toNat_of_nonneg hel.1], hO⟩ ?_
        clear hO
        rintro jv vs h ⟨j, hj1, hj2, rfl, hO⟩
        unfold S5_l17
        refine ⟨_, rfl, Rq.go ⟨by omega, hilt⟩ (NN.go ?_)⟩
        rw [Int.toNat_natCast, add_mk]
        refine LdI.i ((hrd hO).cell eRn_ok rfl hx (j := 2) rfl) ?_
        refine If.dec (fun hjlt => ?_) (fun hjlt => ?_)
        · refine NN.go (LdSl.i (v.docs hO (by simp)) (Rq.go (by omega) ?_))
          rw [Int.toNat_natCast]
          refine hyc hO (by simp) _ fun a _ hcell => LdSl.i hcell ?_
          refine Rq.go (by omega) ?_
          obtain ⟨e, he, hn'⟩ := (hyd (L := pc :: c2 :: c1 :: L) (by simp)).at eElm_ok hO (i := (j : Int)) (by omega) (by omega)
          rw [Int.toNat_natCast] at he hn'
          obtain ⟨e2, he2, hcl⟩ := hel.2.2.2 j hj1 hjlt
          rw [he] at he2
          cases he2
          rw [Int.toNat_natCast]
          refine hn' _ fun a _ hc => LdI.i (hc 1 _ rfl) ?_
          refine Rq.go ⟨by omega, hilt⟩ (NN.go ?_)
          rw [add_mk]
          refine LdI.i ((hrd hO).cell eRn_ok rfl hx (j := 0) rfl) ?_
          refine If.f (by simp [hcl]) (Rng.go (by omega) ⟨⟨j + 1, by omega, by omega, rfl, hO⟩, by simp only; omega⟩)
        · unfold S5_k2
          refine Rq.go ⟨by omega, hilt⟩ (NN.go ?_)
          rw [Int.toNat_natCast, add_mk]
          refine LdI.i ((hrd hO).cell eRn_ok rfl hx (j := 2) rfl) ?_
          refine Rng.go (by omega) ⟨⟨i + 1, x.to, by omega, rfl, fun h => by omega, fun r _ hr => ?_, hO⟩, by simp only; omega⟩
          rw [show i + 1 - 1 = i by omega, hx] at hr
          cases hr; rfl
      refine If.dec (fun hi0 => ?_) (fun hi0 => goon)
      have hx0 : rs[i - 1]? = some (rs[i - 1]'(by omega)) := List.getElem?_eq_getElem _
      generalize rs[i - 1]'(by omega) = x0 at hx0
      refine Rq.go ⟨by omega, hilt⟩ (NN.go ?_)
      rw [add_mk]
      refine LdI.i ((hrd hO).cell eRn_ok rfl hx (j := 0) rfl) ?_
      refine Rng.go (by omega) (Rq.go (by omega) (NN.go ?_))
      rw [show ((i : Int) - 1).toNat = i - 1 by omega, add_mk]
      refine LdI.i ((hrd hO).cell eRn_ok rfl hx0 (j := 0) rfl) ?_
      have hch := (hbl.ch (i - 1) x0 x hx0 (by rw [show i - 1 + 1 = i by omega]; exact hx)).2
      rw [show (x.client == x0.client) = false by simp [hch]]
      exact goon
    · unfold S5_k3
      have hat : at_ = D.length := by
        rcases Nat.eq_zero_or_pos i with h0 | h0
        · have : rs = [] := List.length_eq_zero_iff.1 (by omega)
          rw [ha0 h0, hbl.nn this]; rfl
        · have hx0 : rs[i - 1]? = some (rs[i - 1]'(by omega)) := List.getElem?_eq_getElem _
          rw [ha1 _ h0 hx0]
          refine hbl.la _ ?_
          rw [show rs.length - 1 = i - 1 by omega]; exact hx0
      refine NN.go (LdSl.i (v.docs hO (by simp)) (Rq.go (by omega) ?_))
      rw [Int.toNat_natCast]
      refine hyc hO (by simp) _ fun a _ hcell => LdSl.i hcell ?_
      refine If.f (by rw [hat, hyl]; simp) (Rng.go (by omega) ⟨⟨n + 1, by omega, rfl, hO.drop1⟩, by simp only; omega⟩)
  · unfold S5_k4
    refine NN.go (LdSl.i (v.docs hO (by simp)) ?_)
    refine pastBlame (r := ((s.bk.done.length + 1 : Nat) : Int)) hO hpq hde hed hfit (fun e => by omega) (fun _ h p' l' c' hO => ⟨_, _, _, _, rfl, ?_⟩)
    refine lawNum ⟨_, rfl, ?_⟩
    exact hK _ hO.drop1.drop1
end Go.Sl
