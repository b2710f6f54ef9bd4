/- RevisionLife: who stands in a text of a run's past was born by then and dies later, if ever; of every list of plays; the seven listed package variables hold what the text lays. Part 8 of 11. -/
import Derived.LaidMore
import Derived.LaidSub
import Derived.Lib.LaidU8
import Derived.Carry
import Derived.ChangeAlike
import Derived.Test.YtdcgpdgokaephaaGreatDoorRd7
set_option linter.unusedVariables false
set_option linter.unusedSimpArgs false
set_option linter.unusedSectionVars false
set_option maxRecDepth 100000
namespace Go.Sl
open Go Go.Proofs
structure HI (N : Nat) (Y : List Elm) (h : Hd) : Prop where
  ql : h.q.length ≤ N
  la : h.last ≤ N
  mks : ∀ m ∈ h.q, m.mark ≤ N
  pw : h.q.Pairwise fun a b => a.mark < b.mark
  fit : ∃ Z, FitL Z (h.q.map (·.op)) ∧ applyL Z (h.q.map (·.op)) = Y
theorem HI.push {N : Nat} {Y : List Elm} {h : Hd} (hh : HI N Y h) {d : Op} (hd : FitP Y.length d) : HI (N + 1) (applyD Y d) (keepH ((N + 1 : Nat) : Int) d h) := by
  obtain ⟨h1, h2, h3, h4, Z, h5, h6⟩ := hh
  refine ⟨by simp [keepH]; omega, by simp [keepH], fun m hm => ?_, ?_, Z, ?_, ?_⟩
  · rcases List.mem_append.1 hm with hm | hm
    · have := h3 m hm; omega
    · rw [List.mem_singleton.1 hm]; exact Int.le_refl _
  · refine List.pairwise_append.2 ⟨h4, List.pairwise_singleton _ _, fun a ha b hb => ?_⟩
    rw [List.mem_singleton.1 hb]
    have := h3 a ha
    simp only; omega
  · simp only [keepH, List.map_append, List.map_cons, List.map_nil]
    exact FitL_app.2 ⟨h5, by rw [h6]; exact ⟨hd, trivial⟩⟩
  · simp only [keepH, List.map_append, List.map_cons, List.map_nil]
    rw [applyL_app, h6]; rfl
theorem HI.taken {N : Nat} {Y X : List Elm} {h : Hd} {e : Ed} (hh : HI N Y h) (h4 : FitP X.length e.op) (h5 : FitL X ((dropM e.tag h.q).map (·.op))) (h6 : applyL X ((dropM e.tag h.q).map (·.op)) = Y) : HI (N + 1) (applyD Y (h.step e).1) (h.taken e) := by
  obtain ⟨g1, g2, g3, g4, -⟩ := hh
  have hl : (h.taken e).q.length = (dropM e.tag h.q).length := by
    have := congrArg List.length (taken_marks h e)
    simpa using this
  have hl2 := dropM_len e.tag h.q
  have hsub : (dropM e.tag h.q).Sublist h.q := by unfold dropM; exact List.dropWhile_sublist _
  have hmk := taken_marks h e
  have hop := taken_ops h e
  have hpast := past_ok (f := true) h4 h5
  refine ⟨by omega, ?_, fun m hm => ?_, ?_, applyD X e.op, ?_, ?_⟩
  · show h.last ≤ _; omega
  · have : m.mark ∈ (h.taken e).q.map (·.mark) := List.mem_map_of_mem hm
    rw [hmk] at this
    obtain ⟨m2, hm2, e2⟩ := List.mem_map.1 this
    have := g3 m2 (hsub.subset hm2)
    omega
  · have : ((h.taken e).q.map (·.mark)).Pairwise (· < ·) := by
      rw [hmk]; exact List.pairwise_map.2 (g4.sublist hsub)
    exact List.pairwise_map.1 this
  · rw [hop]; unfold Hd.step; rw [past_pst]; exact hpast.2.1
  · rw [hop]; unfold Hd.step; rw [past_pst, hpast.2.2, h6]
/-- The book's part of what holds of a run. -/
structure BI (s : Ru) : Prop where
  nn : s.bk.done.length = s.has 0 + s.has 1 + s.has 2
  de : s.bk.edits.length = s.bk.done.length
  fitl : FitL [] s.bk.done
  len : s.bk.length = (replayD s.bk.done).length
  bo : s.boots ≤ 100
  ep : s.bk.epoch = s.boots + 1
  il : s.its.length = s.boots + 1 + s.bk.done.length
  el : s.bk.edited.length = s.its.length
  ev : ∀ v ∈ s.bk.edited, 0 ≤ v ∧ v ≤ s.bk.done.length
  cn : s.its.countP isEdit = s.bk.done.length
  run : Runs bk0 s.its s.bk
  syn : s.syn ≤ (frames (s.its.map It.bytes)).length
  hl : s.bk.hands.length = 65
  hi : ∀ (j : Nat) (h : Hd), s.bk.hands[j]? = some h → HI s.bk.done.length (replayD s.bk.done) h
  rv : ∀ i : Nat, i < 3 → ∀ q : Int, s.has i < q → s.bk.revs ((i : Int) + 1, q) = none
  sq : ∀ (k : Nat) (o : Op), s.bk.done[k]? = some o → o.seq = cntC o.client (s.bk.done.take k) + 1
  cl : ∀ o ∈ s.bk.done, 1 ≤ o.client ∧ o.client ≤ 3
  hc : ∀ i : Nat, i < 3 → cntC ((i : Int) + 1) s.bk.done = s.has i
/-- A client's part. -/
structure CI (s : Ru) (i : Nat) : Prop where
  id : (s.cl i).id = i + 1
  ep : (s.cl i).epoch = 1
  md : (s.cl i).made = (s.mine i).length
  hv : (s.cl i).have_ = s.down i
  cu : (s.cl i).cum = s.down i
  ba : (s.cl i).base = 0
  he : (s.cl i).held = none
  m64 : (s.mine i).length ≤ 64
  hm : s.has i ≤ (s.mine i).length
  dn : s.down i ≤ s.bk.done.length
  fl : (s.cl i).flast = (s.mine i).length
  le : (s.cl i).left.length = (s.mine i).length
  pe : (s.cl i).pend.length = (s.cl i).forms.length
  fo : (s.cl i).forms.length ≤ (s.mine i).length
  tx : (s.cl i).text.length ≤ s.down i + (s.mine i).length
  mi : ∀ (j : Nat) (e : Ed), (s.mine i)[j]? = some e → e.op.client = i + 1 ∧ e.op.seq = j + 1 ∧ 0 ≤ e.tag ∧ e.tag ≤ s.down i
  fm : ∀ (j : Nat) (f : Mk), (s.cl i).forms[j]? = some f → f.op.client = i + 1 ∧ f.op.seq = f.mark ∧ f.mark = (s.mine i).length - (s.cl i).forms.length + j + 1
  ft : FitL (replayD (s.bk.done.take (s.down i))) ((s.cl i).forms.map (·.op)) ∧ applyL (replayD (s.bk.done.take (s.down i))) ((s.cl i).forms.map (·.op)) = (s.cl i).text
  la : (s.cl i).last.length = 65 ∧ ∀ c : Nat, 1 ≤ c → c ≤ 3 → c ≠ i + 1 → (s.cl i).last[c]? = some (cntC c (s.bk.done.take (s.down i)) : Int)
  hd : ∃ hd ds qf Tf outs, s.bk.hands[i + 1]? = some hd ∧ hd.seq = s.has i ∧ hd.tag ≤ s.down i ∧
    SSim (prs hd.q) hd.tag hd.seq (replayD s.bk.done) ((s.mine i).drop (s.has i)) ds qf Tf ∧
    CSim (i + 1) (s.down i) ((s.cl i).forms.map (·.op)) (s.cl i).text (s.bk.done.drop (s.down i)) ds Tf outs ∧ outs = dropT (s.down i) qf
structure RInv (s : Ru) : Prop where
  b : BI s
  c : ∀ i, i < 3 → CI s i
theorem RInv.small {s : Ru} (h : RInv s) : s.bk.done.length ≤ 192 ∧ s.its.length ≤ 293 ∧ (frames (s.its.map It.bytes)).length ≤ 30000 := by
  have h1 := (h.c 0 (by omega)).hm
  have h2 := (h.c 1 (by omega)).hm
  have h3 := (h.c 2 (by omega)).hm
  have g1 := (h.c 0 (by omega)).m64
  have g2 := (h.c 1 (by omega)).m64
  have g3 := (h.c 2 (by omega)).m64
  have nn := h.b.nn
  have il := h.b.il
  have bo := h.b.bo
  have hn : s.bk.done.length ≤ 192 := by omega
  refine ⟨hn, by omega, ?_⟩
  have := frames_le (pls := s.its.map It.bytes) fun pl hp => by
    obtain ⟨it, h1, rfl⟩ := List.mem_map.1 hp
    exact (h.b.run.lens it h1).2
  rw [List.length_map] at this
  omega
theorem inv0 : RInv ru0 := by
  have hr : Runs bk0 ru0.its ru0.bk := .boot (by decide) (by decide) .nil
  refine ⟨⟨rfl, rfl, trivial, rfl, by decide, by decide, rfl, rfl, ?_, by decide, hr, Nat.zero_le _, by rfl, ?_, fun _ _ _ _ => rfl, ?_, ?_, fun _ _ => rfl⟩, fun i hi => ⟨rfl, rfl, rfl, rfl, rfl, rfl, rfl, Nat.zero_le _, Nat.zero_le _, Nat.zero_le _, rfl, rfl, rfl, Nat.le_refl _, Nat.zero_le _, ?_, ?_, ⟨trivial, rfl⟩, ⟨by rfl, ?_⟩, ?_⟩⟩
  · intro v hv
    have : v = 0 := by
      have hv : v ∈ [((0 : Nat) : Int)] := hv
      simpa using hv
    subst this
    exact ⟨by omega, by omega⟩
  · intro j h hj
    have hj : (List.replicate 65 (⟨0, 0, [], 0⟩ : Hd))[j]? = some h := hj
    rw [List.getElem?_replicate] at hj
    split at hj
    · cases hj
      exact ⟨by simp, by simp, by simp, by simp, [], trivial, rfl⟩
    · cases hj
  · intro k o ho
    have ho : ([] : List Op)[k]? = some o := ho
    simp at ho
  · intro o ho
    cases ho
  · intro j e he
    have he : ([] : List Ed)[j]? = some e := he
    simp at he
  · intro j e he
    have he : ([] : List Mk)[j]? = some e := he
    simp at he
  · intro c h1 h2 h3
    show (List.replicate 65 (0 : Int))[c]? = some 0
    rw [List.getElem?_replicate, if_pos (by omega)]
  · refine ⟨⟨0, 0, [], 0⟩, [], [], [], [], ?_, rfl, Int.le_refl _, .nil, .nil, rfl⟩
    show (List.replicate 65 (⟨0, 0, [], 0⟩ : Hd))[i + 1]? = _
    rw [List.getElem?_replicate, if_pos (by omega)]
end Go.Sl
set_option maxRecDepth 100000
namespace Go.Sl
open Go Go.Proofs
/-! The book and the log go on alone. -/
theorem RInv.sync {s : Ru} (h : RInv s) : RInv { s with syn := (frames (s.its.map It.bytes)).length } :=
  ⟨{ h.b with syn := Nat.le_refl _ }, fun i hi => { h.c i hi with }⟩
theorem RInv.boot {s : Ru} (h : RInv s) (hb : s.boots < 100) : RInv s.booted := by
  have hs := h.small
  have b := h.b
  have el := b.el
  have il := b.il
  have ep := b.ep
  refine ⟨⟨b.nn, b.de, b.fitl, b.len, ?_, ?_, ?_, ?_, ?_, ?_, ?_, ?_, b.hl, b.hi, b.rv, b.sq, b.cl, b.hc⟩, fun i hi => { h.c i hi with }⟩
  · show s.boots + 1 ≤ 100; omega
  · show s.bk.epoch + 1 = ((s.boots + 1 : Nat) : Int) + 1; omega
  · show (s.its ++ [_]).length = s.boots + 1 + 1 + s.bk.done.length
    rw [List.length_append, List.length_singleton]; omega
  · show (s.bk.edited ++ [_]).length = (s.its ++ [_]).length
    rw [List.length_append, List.length_append, el]; rfl
  · intro v hv
    rcases List.mem_append.1 hv with hv | hv
    · exact b.ev v hv
    · rw [List.mem_singleton.1 hv, b.de]
      show 0 ≤ _ ∧ _ ≤ ((s.bk.done.length : Nat) : Int)
      omega
  · show (s.its ++ [_]).countP isEdit = _
    rw [List.countP_append, b.cn]; rfl
  · exact b.run.snoc (.boot (by omega) (by omega) .nil)
  · show s.syn ≤ (frames ((s.its ++ [_]).map It.bytes)).length
    rw [List.map_append, frames_app, List.length_append]
    have := b.syn; omega
/-! A client makes an edit. -/
theorem edo_fit {n : Nat} {o : Op} {c q : Int} (h : EdO n o) (hc : 1 ≤ c ∧ c ≤ 64) (hq : 1 ≤ q ∧ q ≤ 64) : FitP n { o with client := c, seq := q } ∧ o.kind ≠ 0 := by
  rcases h with ⟨pos, ch, rfl, h⟩ | ⟨pos, rfl, h⟩
  · exact ⟨⟨.inr (.inl ⟨rfl, h.2.2.1, h.2.2.2, h.1, h.2.1⟩), hc, hq⟩, by show (1 : Int) ≠ 0; decide⟩
  · exact ⟨⟨.inr (.inr ⟨rfl, rfl, h.1, h.2⟩), hc, hq⟩, by show (2 : Int) ≠ 0; decide⟩
theorem CI.off {s t : Ru} {i : Nat} (h : CI s i) (h1 : t.cl i = s.cl i) (h2 : t.mine i = s.mine i) (h3 : t.has = s.has) (h4 : t.down i = s.down i) (h5 : t.bk = s.bk) : CI t i := by
  obtain ⟨a1, a2, a3, a4, a5, a6, a7, a8, a9, b1, b2, b3, b4, b5, b6, b7, b8, b9, c1, c2⟩ := h
  rw [← h1, ← h2, ← h3, ← h4, ← h5] at *
  exact ⟨a1, a2, a3, a4, a5, a6, a7, a8, a9, b1, b2, b3, b4, b5, b6, b7, b8, b9, c1, c2⟩
theorem RInv.edit {s : Ru} (h : RInv s) {i : Nat} {o : Op} (hi : i < 3) (hlt : (s.mine i).length < 64) (ho : EdO (s.cl i).text.length o) : RInv (s.edited i o) := by
  have b := h.b
  refine ⟨⟨b.nn, b.de, b.fitl, b.len, b.bo, b.ep, b.il, b.el, b.ev, b.cn, b.run, b.syn, b.hl, b.hi, b.rv, b.sq, b.cl, b.hc⟩, fun j hj => ?_⟩
  by_cases hji : j ≠ i
  · exact (h.c j hj).off (upd_ne hji) (upd_ne hji) rfl rfl rfl
  rw [Decidable.not_not] at hji
  subst hji
  have c := h.c j hj
  have md := c.md
  have id := c.id
  have hv := c.hv
  have dn := c.dn
  have hm := c.hm
  have fo := c.fo
  have hfit : FitP (s.cl j).text.length { o with client := (s.cl j).id, seq := (s.cl j).made + 1 } := (edo_fit ho (by omega) (by omega)).1
  have hk := (edo_fit (c := 1) (q := 1) ho (by omega) (by omega)).2
  have e1 : (s.edited j o).cl j = (s.cl j).edited o := upd_self _ _ _
  have e2 : (s.edited j o).mine j = s.mine j ++ [s.edOf j o] := upd_self _ _ _
  have e3 : (s.edited j o).has = s.has := rfl
  have e4 : (s.edited j o).down = s.down := rfl
  have e5 : (s.edited j o).bk = s.bk := rfl
  have ef : (s.cl j).edited o = { s.cl j with made := (s.cl j).made + 1, text := applyD (s.cl j).text (s.edOf j o).op, pend := (s.cl j).pend ++ [s.edOf j o], forms := (s.cl j).forms ++ [⟨(s.cl j).made + 1, (s.edOf j o).op⟩], flast := (s.cl j).made + 1, left := (s.cl j).left ++ [s.edOf j o] } := rfl
  have hop : (s.edOf j o).op = { o with client := (s.cl j).id, seq := (s.cl j).made + 1 } := rfl
  have htag : (s.edOf j o).tag = s.down j := hv
  rw [← hop] at hfit
  have hcl : (s.edOf j o).op.client = j + 1 := id
  have hsq : (s.edOf j o).op.seq = (s.mine j).length + 1 := by show (s.cl j).made + 1 = _; rw [md]
  have hkk : (s.edOf j o).op.kind ≠ 0 := hk
  generalize s.edOf j o = e at *
  have ml : (s.mine j ++ [e]).length = (s.mine j).length + 1 := by simp
  have fl : ((s.cl j).forms ++ [(⟨(s.cl j).made + 1, e.op⟩ : Mk)]).length = (s.cl j).forms.length + 1 := by simp
  have tl := applyD_len1 (s.cl j).text e.op
  have tx := c.tx
  refine ⟨?_, ?_, ?_, ?_, ?_, ?_, ?_, ?_, ?_, ?_, ?_, ?_, ?_, ?_, ?_, ?_, ?_, ?_, ?_, ?_⟩ <;> (try simp only [e1, e2, e3, e4, e5, ef, ml, fl])
  · exact id
  · exact c.ep
  · omega
  · exact hv
  · exact c.cu
  · exact c.ba
  · exact c.he
  · omega
  · omega
  · exact dn
  · omega
  · rw [List.length_append, c.le]; rfl
  · rw [List.length_append, c.pe]; rfl
  · omega
  · omega
  · intro k x hx
    rcases Nat.lt_or_ge k (s.mine j).length with hk | hk
    · rw [List.getElem?_append_left hk] at hx; exact c.mi k x hx
    · have := (List.getElem?_eq_some_iff.1 hx).1
      have hke : k = (s.mine j).length := by omega
      subst hke
      rw [List.getElem?_append_right (by omega)] at hx
      simp only [Nat.sub_self, List.getElem?_cons_zero, Option.some.injEq] at hx
      subst hx
      exact ⟨hcl, hsq, by omega, by omega⟩
  · intro k x hx
    rcases Nat.lt_or_ge k (s.cl j).forms.length with hk | hk
    · rw [List.getElem?_append_left hk] at hx
      have := c.fm k x hx
      exact ⟨this.1, this.2.1, by omega⟩
    · have := (List.getElem?_eq_some_iff.1 hx).1
      have hke : k = (s.cl j).forms.length := by omega
      subst hke
      rw [List.getElem?_append_right (by omega)] at hx
      simp only [Nat.sub_self, List.getElem?_cons_zero, Option.some.injEq] at hx
      subst hx
      exact ⟨hcl, by simp only; omega, by simp only; omega⟩
  · rw [List.map_append, List.map_cons, List.map_nil]
    refine ⟨FitL_app.2 ⟨c.ft.1, ?_⟩, ?_⟩
    · rw [c.ft.2]; exact ⟨hfit, trivial⟩
    · rw [applyL_app, c.ft.2]; rfl
  · exact c.la
  · obtain ⟨hd, ds, qf, Tf, outs, g1, g2, g3, g4, g5, g6⟩ := c.hd
    have of := g5.outs_fit
    have om := g5.marks
    refine ⟨hd, ds ++ [(sstep qf e).1], (sstep qf e).2, applyD Tf (sstep qf e).1, (outs.map (·.1)).zip (pst e.op (outs.map (·.2)) true).2, g1, g2, g3, ?_, ?_, ?_⟩
    · rw [List.drop_append_of_le_length hm]
      refine g4.snoc ?_ ⟨by omega, fun x hx => ?_⟩ hkk hfit ?_ ?_
      · rw [List.length_drop, hsq]; omega
      · obtain ⟨k, hk⟩ := List.mem_iff_getElem?.1 (List.mem_of_mem_drop hx)
        have := (c.mi k x hk).2.2
        omega
      · rw [htag, ← g6]; exact of.1
      · rw [htag, ← g6]; exact of.2
    · have h1 := g5.snoc hfit
      rw [List.map_append, List.map_cons, List.map_nil]
      have e6 : (sstep qf e).1 = (pst e.op (outs.map (·.2)) true).1 := by unfold sstep; rw [htag, ← g6]
      rw [e6]
      exact h1
    · have e6 : (sstep qf e).2 = (outs.map (·.1)).zip (pst e.op (outs.map (·.2)) true).2 := by unfold sstep; rw [htag, ← g6]
      rw [e6]
      refine (dropT_all fun m hm => ?_).symm
      have h1 := (List.of_mem_zip (show (m.1, m.2) ∈ _ from hm)).1
      obtain ⟨y, hy, h2⟩ := List.mem_map.1 h1
      have := om.1 y hy
      omega
end Go.Sl
set_option maxRecDepth 100000
namespace Go.Sl
open Go Go.Proofs
/-- What lies before a client's next edit. -/
structure Look (s : Ru) (i : Nat) (e : Ed) (hd : Hd) (X : List Elm) : Prop where
  hn : s.bk.hands[i + 1]? = some hd
  hs : hd.seq = s.has i
  tg : hd.tag ≤ e.tag
  no : e.op.kind ≠ 0
  sq : e.op.seq = hd.seq + 1
  cl : e.op.client = i + 1
  t0 : 0 ≤ e.tag ∧ e.tag ≤ s.down i
  fp : FitP X.length e.op
  fl : FitL X ((dropM e.tag hd.q).map (·.op))
  ap : applyL X ((dropM e.tag hd.q).map (·.op)) = replayD s.bk.done
  rest : ∃ ds qf Tf outs, SSim (prs (hd.taken e).q) e.tag (hd.seq + 1) (replayD (s.bk.done ++ [(hd.step e).1])) ((s.mine i).drop (s.has i + 1)) ds qf Tf ∧
    CSim (i + 1) (s.down i) ((s.cl i).forms.map (·.op)) (s.cl i).text (s.bk.done.drop (s.down i)) ((hd.step e).1 :: ds) Tf outs ∧ outs = dropT (s.down i) qf
theorem RInv.look {s : Ru} (h : RInv s) {i : Nat} {e : Ed} (hi : i < 3) (he : (s.mine i)[s.has i]? = some e) : ∃ hd X, Look s i e hd X := by
  have c := h.c i hi
  obtain ⟨hd, ds, qf, Tf, outs, g1, g2, g3, g4, g5, g6⟩ := c.hd
  have hlt := (List.getElem?_eq_some_iff.1 he).1
  have hdr : (s.mine i).drop (s.has i) = e :: (s.mine i).drop (s.has i + 1) := by
    rw [List.drop_eq_getElem_cons hlt]
    have := (List.getElem?_eq_some_iff.1 he).2
    rw [this]
  rw [hdr] at g4
  have hm := c.mi _ _ he
  cases g4 with
  | cons X h1 h2 h3 h4 h5 h6 h7 =>
    rw [dropT_prs, prs_ops] at h5 h6
    rw [sstep_prs] at h7 g5
    simp only at h7 g5
    exact ⟨hd, X, ⟨g1, g2, h2, h3, h1, hm.1, hm.2.2, h4, h5, h6, _, qf, Tf, outs, by rw [replayD_snoc]; exact h7, g5, g6⟩⟩
theorem Look.xl {s : Ru} {i : Nat} {e : Ed} {hd : Hd} {X : List Elm} (k : Look s i e hd X) (h : RInv s) : (X.length : Int) = (replayD s.bk.done).length - sumG ((dropM e.tag hd.q).map (·.op)) ∧ X.length ≤ 400 ∧ hd.q.length ≤ 192 := by
  have h1 := k.fl.len
  rw [k.ap] at h1
  have h2 := sumG_le ((dropM e.tag hd.q).map (·.op))
  have h3 := (h.b.hi _ _ k.hn).ql
  have h4 := h.small.1
  have h5 := dropM_len e.tag hd.q
  have h6 := replayD_le s.bk.done
  rw [List.length_map] at h2
  omega
theorem Look.dn {s : Ru} {i : Nat} {e : Ed} {hd : Hd} {X : List Elm} (k : Look s i e hd X) : FitP (replayD s.bk.done).length (hd.step e).1 := by
  have h1 := (past_ok (f := true) k.fp k.fl).1
  rw [k.ap] at h1
  unfold Hd.step; rw [past_pst]; exact h1
theorem Look.who {s : Ru} {i : Nat} {e : Ed} {hd : Hd} {X : List Elm} (k : Look s i e hd X) : (hd.step e).1.client = i + 1 ∧ (hd.step e).1.seq = s.has i + 1 := by
  have := pst_who1 true ((dropM e.tag hd.q).map (·.op)) e.op
  unfold Hd.step; rw [past_pst, this.1, this.2, k.cl, k.sq, k.hs]
  exact ⟨rfl, rfl⟩
theorem Look.can {s : Ru} {i : Nat} {e : Ed} {hd : Hd} {X : List Elm} (k : Look s i e hd X) (h : RInv s) (hi : i < 3) : s.bk.Can e hd := by
  have hx := k.xl h
  have hs := h.small
  have ep := h.b.ep
  have cl := k.cl
  have sq := k.sq
  have ks := k.hs
  have dn := (h.c i hi).dn
  have hm := (h.c i hi).hm
  have m64 := (h.c i hi).m64
  have t0 := k.t0
  have de := h.b.de
  have ln := h.b.len
  have rl := replayD_le s.bk.done
  have hh := h.b.hi _ _ k.hn
  have ecl : e.op.client.toNat = i + 1 := by omega
  refine ⟨by omega, k.fp.valid (by omega), k.fp.ch, by omega, k.no, ?_, by rw [ecl]; exact k.hn, sq, by omega, ⟨k.tg, by omega⟩, ?_, by omega, by omega, ?_⟩
  · rw [cl, sq, ks]; exact h.b.rv i hi _ (by omega)
  · rw [ckN_eq hh.pw, ln, ← hx.1]; exact k.fp.fits (by omega)
  · intro l hl
    obtain ⟨Z, z1, z2⟩ := hh.fit
    have h1 := (z1.mem l hl).pos
    have h2 := z1.len
    rw [z2] at h2
    have h3 := sumG_le (hd.q.map (·.op))
    rw [List.length_map] at h1 h3
    omega
theorem Look.tak {s : Ru} {i : Nat} {e : Ed} {hd : Hd} {X : List Elm} (k : Look s i e hd X) (h : RInv s) (hi : i < 3) : s.bk.Tak e hd := by
  have hx := k.xl h
  have hs := h.small
  have c := k.can h hi
  have de := h.b.de
  have el := h.b.el
  have rl := replayD_le s.bk.done
  have hp := k.fp.pos
  refine ⟨c.va, c.ch, by omega, c.cl, c.hn, fun j hj e1 => ?_, ?_, k.dn.mono (by omega), by omega, by omega, by omega, c.ln⟩
  · have := h.b.hi j hj e1
    have h1 := this.ql
    have h2 := this.la
    rw [de]; omega
  · intro l hl
    refine c.qp l ?_
    obtain ⟨m, h1, rfl⟩ := List.mem_map.1 hl
    exact List.mem_map_of_mem ((List.dropWhile_sublist _).subset h1)
theorem RInv.upOk {s : Ru} (h : RInv s) {i : Nat} (hi : i < 3) (hlt : s.has i < (s.mine i).length) : ∃ e hd, UpOk s i e hd := by
  have he : (s.mine i)[s.has i]? = some ((s.mine i)[s.has i]'hlt) := List.getElem?_eq_getElem _
  generalize (s.mine i)[s.has i]'hlt = e at he
  obtain ⟨hd, X, k⟩ := h.look hi he
  have hx := k.xl h
  have hs := h.small
  have t0 := k.t0
  have dn := (h.c i hi).dn
  have de := h.b.de
  refine ⟨e, hd, he, k.can h hi, k.tak h hi, by omega, k.fp.mono (by omega), by omega, de.symm, by omega, by omega, ?_, h.b.cn⟩
  refine FitL.fit (FitL_app.2 ⟨h.b.fitl, k.dn, trivial⟩) (by rw [List.length_append, List.length_singleton]; omega)
theorem UpOk.look {s : Ru} {i : Nat} {e : Ed} {hd : Hd} (h : RInv s) (hi : i < 3) (ok : UpOk s i e hd) : ∃ X, Look s i e hd X := by
  obtain ⟨hd2, X, k⟩ := h.look hi ok.he
  have h1 := ok.can.hn
  have cl := k.cl
  rw [show e.op.client.toNat = i + 1 by omega, k.hn] at h1
  cases h1
  exact ⟨X, k⟩
theorem RInv.up {s : Ru} (h : RInv s) {i : Nat} {e : Ed} {hd : Hd} (hi : i < 3) (hlt : s.has i < (s.mine i).length) (ok : UpOk s i e hd) : RInv (s.upped i e hd) := by
  obtain ⟨X, k⟩ := ok.look h hi
  have b := h.b
  have hs := h.small
  have who := k.who
  have dnf := k.dn
  have cl := k.cl
  have sq := k.sq
  have ks := k.hs
  have de := b.de
  have hcl : e.op.client.toNat = i + 1 := by omega
  have e0 : (s.upped i e hd).bk.done = s.bk.done ++ [(hd.step e).1] := rfl
  have e1 : (s.upped i e hd).its = s.its ++ [.edit e] := rfl
  have e2 : (s.upped i e hd).has = upd s.has i (s.has i + 1) := rfl
  have e3 : ∀ j, (s.upped i e hd).bk.hands[j]? = ((s.bk.hands.set (i + 1) (hd.taken e))[j]?).map fun h => if j < 65 ∧ j ≠ i + 1 then keepH ((s.bk.done.length + 1 : Nat) : Int) (hd.step e).1 h else h := fun j => by
    show (kH ((s.bk.edits.length + 1 : Nat) : Int) (hd.step e).1 e.op.client.toNat 65 (s.bk.hands.set e.op.client.toNat (hd.taken e)))[j]? = _
    rw [kH_get, hcl, de]
  have hlen := b.hl
  have eh1 : (s.upped i e hd).bk.hands[i + 1]? = some (hd.taken e) := by
    rw [e3, List.getElem?_set_self (by omega)]
    simp
  have eh2 : ∀ j, j ≠ i + 1 → (s.upped i e hd).bk.hands[j]? = (s.bk.hands[j]?).map (keepH ((s.bk.done.length + 1 : Nat) : Int) (hd.step e).1) := fun j hj => by
    rw [e3, List.getElem?_set_ne (Ne.symm hj)]
    rcases Nat.lt_or_ge j 65 with h65 | h65
    · simp [h65, hj]
    · rw [List.getElem?_eq_none (by omega)]; rfl
  have hup : ∀ j, upd s.has i (s.has i + 1) j = s.has j + if j = i then 1 else 0 := fun j => by
    by_cases hji : j = i
    · subst hji; rw [upd_self, if_pos rfl]
    · rw [upd_ne hji, if_neg hji]; rfl
  have hN : (s.bk.done ++ [(hd.step e).1]).length = s.bk.done.length + 1 := by simp
  refine ⟨⟨?_, ?_, ?_, ?_, b.bo, b.ep, ?_, ?_, ?_, ?_, ?_, ?_, ?_, ?_, ?_, ?_, ?_, ?_⟩, fun j hj => ?_⟩
  · rw [e0, hN, e2, hup, hup, hup, b.nn]
    have : i = 0 ∨ i = 1 ∨ i = 2 := by omega
    rcases this with rfl | rfl | rfl <;> simp <;> omega
  · show (s.bk.edits ++ [e]).length = _
    rw [e0, hN, List.length_append, List.length_singleton, de]
  · rw [e0]; exact FitL_app.2 ⟨b.fitl, dnf, trivial⟩
  · show s.bk.length + gr (hd.step e).1 = _
    rw [e0, replayD_snoc, dnf.len, b.len]
  · rw [e0, e1, hN, List.length_append, List.length_singleton, b.il]; rfl
  · show (s.bk.edited ++ [_]).length = _
    rw [e1, List.length_append, List.length_append, b.el]; rfl
  · intro v hv
    rw [e0, hN]
    rcases List.mem_append.1 (show v ∈ s.bk.edited ++ [((s.bk.edits.length + 1 : Nat) : Int)] from hv) with hv | hv
    · have := b.ev v hv; omega
    · rw [List.mem_singleton.1 hv, de]; omega
  · rw [e0, e1, hN, List.countP_append, b.cn]; rfl
  · rw [e1]; exact b.run.snoc (.edit ok.can ok.tak ok.tg ok.fp .nil)
  · rw [e1, List.map_append, frames_app, List.length_append]
    show s.syn ≤ _
    have := b.syn; omega
  · show (kH _ _ _ _ (s.bk.hands.set _ _)).length = 65
    rw [kH_len, List.length_set]; exact hlen
  · intro j x hx
    rw [e0, hN, replayD_snoc]
    by_cases hj : j = i + 1
    · subst hj
      rw [eh1] at hx
      cases hx
      exact (b.hi _ _ k.hn).taken k.fp k.fl k.ap
    · rw [eh2 j hj] at hx
      obtain ⟨y, hy, rfl⟩ := Option.map_eq_some_iff.1 hx
      exact (b.hi _ _ hy).push dnf
  · intro j hj q hq
    rw [e2, hup] at hq
    show (if ((j : Int) + 1, q) = (e.op.client, e.op.seq) then _ else s.bk.revs ((j : Int) + 1, q)) = none
    rw [if_neg]
    · exact b.rv j hj q (by omega)
    · intro he
      rw [Prod.mk.injEq, cl, sq, ks] at he
      have : j = i := by omega
      subst this
      rw [if_pos rfl] at hq
      omega
  · intro n o ho
    rw [e0] at ho ⊢
    rcases Nat.lt_or_ge n s.bk.done.length with hk | hk
    · rw [List.getElem?_append_left hk] at ho
      rw [List.take_append_of_le_length (by omega)]
      exact b.sq n o ho
    · have := (List.getElem?_eq_some_iff.1 ho).1
      have hke : n = s.bk.done.length := by omega
      subst hke
      rw [List.getElem?_append_right (by omega)] at ho
      simp only [Nat.sub_self, List.getElem?_cons_zero, Option.some.injEq] at ho
      subst ho
      rw [List.take_append_of_le_length (by omega), List.take_length, who.1, who.2, b.hc i hi]
  · intro o ho
    rw [e0] at ho
    rcases List.mem_append.1 ho with ho | ho
    · exact b.cl o ho
    · rw [List.mem_singleton.1 ho, who.1]; omega
  · intro j hj
    rw [e0, cntC_snoc, b.hc j hj, e2, hup, who.1]
    by_cases hji : j = i
    · subst hji; rw [if_pos rfl, if_pos rfl]
    · rw [if_neg hji, if_neg (by omega)]
  have c := h.c j hj
  have dn := c.dn
  have tk : (s.bk.done ++ [(hd.step e).1]).take (s.down j) = s.bk.done.take (s.down j) := List.take_append_of_le_length dn
  have hm := c.hm
  refine ⟨c.id, c.ep, c.md, c.hv, c.cu, c.ba, c.he, c.m64, ?_, ?_, c.fl, c.le, c.pe, c.fo, c.tx, c.mi, c.fm, ?_, ?_, ?_⟩
  · rw [e2, hup]
    show _ ≤ (s.mine j).length
    by_cases hji : j = i
    · subst hji; rw [if_pos rfl]; omega
    · rw [if_neg hji]; omega
  · rw [e0, hN]; show s.down j ≤ _; omega
  · rw [e0]; show FitL (replayD ((s.bk.done ++ [(hd.step e).1]).take (s.down j))) _ ∧ applyL (replayD ((s.bk.done ++ [(hd.step e).1]).take (s.down j))) _ = _
    rw [tk]; exact c.ft
  · rw [e0]
    show _ ∧ ∀ c : Nat, 1 ≤ c → c ≤ 3 → c ≠ j + 1 → (s.cl j).last[c]? = some (cntC c ((s.bk.done ++ [(hd.step e).1]).take (s.down j)) : Int)
    rw [tk]; exact c.la
  · rw [e0]
    have dr : (s.bk.done ++ [(hd.step e).1]).drop (s.down j) = s.bk.done.drop (s.down j) ++ [(hd.step e).1] := List.drop_append_of_le_length dn
    show ∃ hd' ds qf Tf outs, (s.upped i e hd).bk.hands[j + 1]? = some hd' ∧ hd'.seq = (((s.upped i e hd).has j : Nat) : Int) ∧ hd'.tag ≤ s.down j ∧
      SSim (prs hd'.q) hd'.tag hd'.seq (replayD (s.bk.done ++ [(hd.step e).1])) ((s.mine j).drop ((s.upped i e hd).has j)) ds qf Tf ∧
      CSim (j + 1) (s.down j) ((s.cl j).forms.map (·.op)) (s.cl j).text ((s.bk.done ++ [(hd.step e).1]).drop (s.down j)) ds Tf outs ∧ outs = dropT (s.down j) qf
    rw [dr, e2, hup]
    by_cases hji : j = i
    · subst hji
      obtain ⟨ds, qf, Tf, outs, r1, r2, r3⟩ := k.rest
      rw [if_pos rfl]
      have t0 := k.t0
      refine ⟨hd.taken e, ds, qf, Tf, outs, eh1, by show e.op.seq = _; rw [sq, ks]; rfl, t0.2, ?_, r2.pushOwn who.1, r3⟩
      have : (hd.taken e).seq = hd.seq + 1 := sq
      rw [this]
      exact r1
    · obtain ⟨hd2, ds, qf, Tf, outs, g1, g2, g3, g4, g5, g6⟩ := c.hd
      rw [if_neg hji]
      have hfl := g4.fitl
      have hpk := past_ok (f := false) dnf hfl.1
      rw [hfl.2] at hpk
      have hrl : (s.bk.done.drop (s.down j)).length = s.bk.done.length - s.down j := List.length_drop
      have hmk : (s.down j : Int) + (s.bk.done.drop (s.down j)).length + 1 = ((s.bk.done.length + 1 : Nat) : Int) := by rw [hrl]; omega
      refine ⟨keepH ((s.bk.done.length + 1 : Nat) : Int) (hd.step e).1 hd2, (pst (hd.step e).1 ds false).2, qf ++ [(((s.bk.done.length + 1 : Nat) : Int), (pst (hd.step e).1 ds false).1)], applyD Tf (pst (hd.step e).1 ds false).1, outs ++ [(((s.bk.done.length + 1 : Nat) : Int), (pst (hd.step e).1 ds false).1)], ?_, g2, g3, ?_, ?_, ?_⟩
      · rw [eh2 _ (by omega), g1]; rfl
      · rw [replayD_snoc]
        have eq : prs (keepH ((s.bk.done.length + 1 : Nat) : Int) (hd.step e).1 hd2).q = prs hd2.q ++ [(((s.bk.done.length + 1 : Nat) : Int), (hd.step e).1)] := by simp [prs, keepH]
        rw [eq]
        refine g4.push (fun x hx => ?_) dnf
        obtain ⟨n, hn⟩ := List.mem_iff_getElem?.1 (List.mem_of_mem_drop hx)
        have := (c.mi n x hn).2.2
        omega
      · rw [← hmk]
        exact g5.push (by rw [who.1]; omega) hpk.1
      · rw [dropT_app (by simp only; omega), g6]
end Go.Sl
set_option maxRecDepth 100000
namespace Go.Sl
open Go Go.Proofs
/-- What lies before a client's next record. -/
structure RecOk (s : Ru) (i : Nat) (o : Op) : Prop where
  ho : s.bk.done[s.down i]? = some o
  own : o.client = i + 1 → ∃ m rest, (s.cl i).forms = m :: rest ∧ m.op = o
  other : o.client ≠ i + 1 → FitP (s.cl i).text.length (pst o ((s.cl i).forms.map (·.op)) false).1
  acc : (s.cl i).Acc o
  fit : FitP (replayD (s.bk.done.take (s.down i))).length o
theorem RInv.recd {s : Ru} (h : RInv s) {i : Nat} {o : Op} (hi : i < 3) (ho : s.bk.done[s.down i]? = some o) : RecOk s i o := by
  have c := h.c i hi
  have b := h.b
  have hs := h.small
  obtain ⟨hd, ds, qf, Tf, outs, g1, g2, g3, g4, g5, g6⟩ := c.hd
  have hlt := (List.getElem?_eq_some_iff.1 ho).1
  have hdr : s.bk.done.drop (s.down i) = o :: s.bk.done.drop (s.down i + 1) := by
    rw [List.drop_eq_getElem_cons hlt]
    have := (List.getElem?_eq_some_iff.1 ho).2
    rw [this]
  have hfit : FitP (replayD (s.bk.done.take (s.down i))).length o := b.fitl.at ho
  have hrl := replayD_len s.bk.done (s.down i)
  have m64 := c.m64
  have fo := c.fo
  have tx := c.tx
  have pe := c.pe
  have id := c.id
  have own : o.client = i + 1 → ∃ m rest, (s.cl i).forms = m :: rest ∧ m.op = o := fun e => by
    rw [hdr] at g5
    generalize hF : (s.cl i).forms = F at g5
    cases F with
    | nil => cases g5 with | other h _ _ => exact absurd e h
    | cons m rest =>
      refine ⟨m, rest, rfl, ?_⟩
      generalize hX : (m :: rest).map (·.op) = Y at g5
      cases g5 with
      | other h _ _ => exact absurd e h
      | own _ _ => rw [List.map_cons] at hX; cases hX; rfl
  have other : o.client ≠ i + 1 → FitP (s.cl i).text.length (pst o ((s.cl i).forms.map (·.op)) false).1 := fun e => by
    have := (past_ok (f := false) hfit c.ft.1).1
    rwa [c.ft.2] at this
  refine ⟨ho, own, other, ⟨by omega, by omega, by omega, fun l hl => ?_, hfit.mono (by omega), fun e => ?_, fun e => ⟨?_, ?_⟩⟩, hfit⟩
  · have := (c.ft.1.mem l hl).pos
    rw [List.length_map] at this
    omega
  · rw [id] at e
    obtain ⟨m, rest, h1, h2⟩ := own e
    refine ⟨⟨m.mark, rest, by rw [h1, ← h2]⟩, ?_⟩
    intro h0
    rw [h0, h1] at pe
    simp at pe
  · rw [id] at e
    have hcl := b.cl o (List.mem_of_getElem? ho)
    have h1 := b.sq _ _ ho
    have h2 := c.la.2 o.client.toNat (by omega) (by omega) (by omega)
    rw [h2, h1]
    have : ((o.client.toNat : Nat) : Int) = o.client := by omega
    rw [this]; congr 1; omega
  · rw [id] at e
    rw [past_pst]; exact other e
theorem RInv.downOk {s : Ru} (h : RInv s) {i : Nat} (hi : i < 3) (hlt : s.down i < s.bk.done.length) : ∃ o, DownOk s i o := by
  have ho : s.bk.done[s.down i]? = some (s.bk.done[s.down i]'hlt) := List.getElem?_eq_getElem _
  generalize s.bk.done[s.down i]'hlt = o at ho
  have r := h.recd hi ho
  have c := h.c i hi
  have hs := h.small
  have hv := c.hv
  exact ⟨o, ho, r.acc, c.he, c.cu, c.ba, c.ep, c.id, by omega, by omega, by omega⟩
theorem RInv.down {s : Ru} (h : RInv s) {i : Nat} {o : Op} (hi : i < 3) (ho : s.bk.done[s.down i]? = some o) : RInv (s.downed i o) := by
  have b := h.b
  have r := h.recd hi ho
  refine ⟨⟨b.nn, b.de, b.fitl, b.len, b.bo, b.ep, b.il, b.el, b.ev, b.cn, b.run, b.syn, b.hl, b.hi, b.rv, b.sq, b.cl, b.hc⟩, fun j hj => ?_⟩
  by_cases hji : j ≠ i
  · exact (h.c j hj).off (upd_ne hji) rfl rfl (upd_ne hji) rfl
  rw [Decidable.not_not] at hji
  subst hji
  have c := h.c j hj
  have hs := h.small
  have hlt := (List.getElem?_eq_some_iff.1 ho).1
  have hdr : s.bk.done.drop (s.down j) = o :: s.bk.done.drop (s.down j + 1) := by
    rw [List.drop_eq_getElem_cons hlt]
    have := (List.getElem?_eq_some_iff.1 ho).2
    rw [this]
  have htk := take_snoc ho
  obtain ⟨hd, ds, qf, Tf, outs, g1, g2, g3, g4, g5, g6⟩ := c.hd
  rw [hdr] at g5
  have e1 : (s.downed j o).cl j = (s.cl j).recvd o := upd_self _ _ _
  have e2 : (s.downed j o).mine = s.mine := rfl
  have e3 : (s.downed j o).has = s.has := rfl
  have e4 : (s.downed j o).down j = s.down j + 1 := upd_self _ _ _
  have e5 : (s.downed j o).bk = s.bk := rfl
  have id := c.id
  have hv := c.hv
  have cu := c.cu
  have tx := c.tx
  have fo := c.fo
  have pe := c.pe
  have hcl := b.cl o (List.mem_of_getElem? ho)
  have hseq := b.sq _ _ ho
  have mi : ∀ (k : Nat) (e : Ed), (s.mine j)[k]? = some e → e.op.client = j + 1 ∧ e.op.seq = k + 1 ∧ 0 ≤ e.tag ∧ e.tag ≤ ((s.down j + 1 : Nat) : Int) := fun k e he => by
    have := c.mi k e he
    exact ⟨this.1, this.2.1, this.2.2.1, by omega⟩
  by_cases hown : o.client = j + 1
  · obtain ⟨m, rest, hf, hm⟩ := r.own hown
    have ef : (s.cl j).recvd o = { s.cl j with cum := (s.cl j).cum + 1, held := none, have_ := (s.cl j).have_ + 1, pend := (s.cl j).pend.drop 1, forms := rest } := by
      unfold Cl.recvd
      rw [if_pos (by rw [id]; exact hown)]
      have hd2 : dropM o.seq (s.cl j).forms = rest := by
        have f0 := c.fm 0 m (by rw [hf]; rfl)
        rw [hf]
        refine (dropM_eq (n := 1) (by simp) (fun k x hk hx => ?_) (fun x hx => ?_)).trans rfl
        · have : k = 0 := by omega
          subst this
          cases hx
          rw [← hm, f0.2.1]; exact Int.le_refl _
        · have f1 := c.fm 1 x (by rw [hf]; exact hx)
          rw [← hm, f0.2.1]
          omega
      rw [hd2]
    have hfl : (s.cl j).forms.length = rest.length + 1 := by rw [hf]; rfl
    have g5' : CSim (j + 1) (((s.down j + 1 : Nat) : Int)) (rest.map (·.op)) (s.cl j).text (s.bk.done.drop (s.down j + 1)) ds Tf outs := by
      rw [hf, List.map_cons, hm] at g5
      cases g5 with
      | own _ h => exact h
      | other h _ _ => exact absurd hown h
    refine ⟨?_, ?_, ?_, ?_, ?_, ?_, ?_, ?_, ?_, ?_, ?_, ?_, ?_, ?_, ?_, ?_, ?_, ?_, ?_, ?_⟩ <;> (try simp only [e1, e2, e3, e4, e5, ef])
    · exact id
    · exact c.ep
    · exact c.md
    · omega
    · omega
    · exact c.ba
    · exact c.m64
    · exact c.hm
    · omega
    · exact c.fl
    · exact c.le
    · rw [List.length_drop]; omega
    · omega
    · omega
    · exact mi
    · intro k x hx
      have := c.fm (k + 1) x (by rw [hf]; exact hx)
      exact ⟨this.1, this.2.1, by omega⟩
    · have ft := c.ft
      rw [hf, List.map_cons, hm] at ft
      rw [replayD_succ ho]
      exact ⟨ft.1.2, ft.2⟩
    · refine ⟨c.la.1, fun k k1 k2 k3 => ?_⟩
      rw [c.la.2 k k1 k2 k3, htk, cntC_snoc, if_neg (by omega)]; rfl
    · refine ⟨hd, ds, qf, Tf, outs, g1, g2, by omega, g4, g5', ?_⟩
      have om := g5'.marks
      have : dropT ((s.down j : Int) + 1) qf = outs := by
        rw [← dropT_succ, ← g6]
        exact dropT_all om.1
      exact this.symm
  · have hpl : (pst o ((s.cl j).forms.map (·.op)) false).2.length = (s.cl j).forms.length := by rw [pst_len, List.length_map]
    have ef : (s.cl j).recvd o = { s.cl j with cum := (s.cl j).cum + 1, held := none, have_ := (s.cl j).have_ + 1, last := (s.cl j).last.set o.client.toNat o.seq, forms := remk (s.cl j).forms (pst o ((s.cl j).forms.map (·.op)) false).2, text := applyD (s.cl j).text (pst o ((s.cl j).forms.map (·.op)) false).1 } := by
      unfold Cl.recvd
      rw [if_neg (by rw [id]; exact hown), past_pst]
    have hrm := remk_marks hpl
    have hro := remk_ops hpl
    have hrl : (remk (s.cl j).forms (pst o ((s.cl j).forms.map (·.op)) false).2).length = (s.cl j).forms.length := by
      have := congrArg List.length hrm
      simpa using this
    have hw := pst_who2 false ((s.cl j).forms.map (·.op)) o
    have htl := applyD_len1 (s.cl j).text (pst o ((s.cl j).forms.map (·.op)) false).1
    have hpk := past_ok (f := false) r.fit c.ft.1
    generalize hgx : remk (s.cl j).forms (pst o ((s.cl j).forms.map (·.op)) false).2 = fs at *
    refine ⟨?_, ?_, ?_, ?_, ?_, ?_, ?_, ?_, ?_, ?_, ?_, ?_, ?_, ?_, ?_, ?_, ?_, ?_, ?_, ?_⟩ <;> (try simp only [e1, e2, e3, e4, e5, ef])
    · exact id
    · exact c.ep
    · exact c.md
    · omega
    · omega
    · exact c.ba
    · exact c.m64
    · exact c.hm
    · omega
    · exact c.fl
    · exact c.le
    · omega
    · omega
    · omega
    · exact mi
    · intro k x hx
      have hk := (List.getElem?_eq_some_iff.1 hx).1
      have hy : (s.cl j).forms[k]? = some ((s.cl j).forms[k]'(by omega)) := List.getElem?_eq_getElem _
      generalize (s.cl j).forms[k]'(by omega) = y at hy
      have := c.fm k y hy
      have h1 : x.mark = y.mark := by
        have := congrArg (·[k]?) hrm
        simpa [List.getElem?_map, hx, hy] using this
      have h2 : x.op.client = y.op.client ∧ x.op.seq = y.op.seq := by
        rw [← hro] at hw
        have := congrArg (·[k]?) hw
        simpa [List.getElem?_map, hx, hy] using this
      rw [h2.1, h2.2, h1]
      exact ⟨this.1, this.2.1, by omega⟩
    · rw [replayD_succ ho, hro]
      refine ⟨hpk.2.1, ?_⟩
      rw [hpk.2.2, c.ft.2]
    · refine ⟨by rw [List.length_set]; exact c.la.1, fun k k1 k2 k3 => ?_⟩
      have hl65 := c.la.1
      rw [htk, cntC_snoc]
      by_cases hk : k = o.client.toNat
      · subst hk
        rw [List.getElem?_set_self (by omega), if_pos (by omega), hseq]
        have : ((o.client.toNat : Nat) : Int) = o.client := by omega
        rw [this]; rfl
      · rw [List.getElem?_set_ne (Ne.symm hk), if_neg (by omega)]
        exact c.la.2 k k1 k2 k3
    · generalize hF : (s.cl j).forms.map (·.op) = F at g5
      cases g5 with
      | own h _ => exact absurd h hown
      | @other _ _ _ _ _ _ _ outs' _ _ h3 =>
        refine ⟨hd, ds, qf, Tf, outs', g1, g2, by omega, g4, by rw [hro, hF]; exact h3, ?_⟩
        have om := h3.marks
        have : dropT ((s.down j : Int) + 1) qf = outs' := by
          rw [← dropT_succ, ← g6]
          show dropT _ (((s.down j : Int) + 1, _) :: outs') = outs'
          have e9 : ∀ x, dropT ((s.down j : Int) + 1) (((s.down j : Int) + 1, x) :: outs') = dropT ((s.down j : Int) + 1) outs' := fun x => by
            unfold dropT; rw [List.dropWhile_cons]; simp
          rw [e9]
          exact dropT_all om.1
        exact this.symm
theorem RInv.good {s : Ru} (h : RInv s) : Good s := by
  have hs := h.small
  have b := h.b
  have ep := b.ep
  have il := b.il
  have el := b.el
  have bo := b.bo
  refine ⟨fun i hi => (h.c i hi).m64, fun i hi hlt => ?_, fun i hi => ?_, fun i hi hlt => h.upOk hi hlt, fun i hi hlt => h.downOk hi hlt, fun hb => ?_, ?_⟩
  · have c := h.c i hi
    have tx := c.tx
    have dn := c.dn
    have md := c.md
    have fl := c.fl
    have fo := c.fo
    have le := c.le
    have pe := c.pe
    have id := c.id
    have e := c.ep
    exact ⟨by omega, by omega, by omega, by omega, by omega, by omega, by omega, by omega⟩
  · have c := h.c i hi
    have tx := c.tx
    have dn := c.dn
    have m := c.m64
    omega
  · exact ⟨by omega, by omega, by omega, by omega, by omega, b.cn⟩
  · refine ⟨by omega, by omega, b.syn, el, fun v hv => ?_⟩
    have := b.ev v hv
    omega
theorem RInv.step {s t : Ru} (h : RInv s) (ht : Stp3 s t) : RInv t := by
  cases ht with
  | none => exact h
  | edit i o h1 h2 h3 => exact h.edit h1 h2 h3
  | up i e hd h1 h2 h3 => exact h.up h1 h2 h3
  | down i o h1 h2 h3 => exact h.down h1 h3.ho
  | boot h1 => exact h.boot h1
  | sync => exact h.sync
theorem rinvs : Invs RInv where
  z := inv0
  st _ _ h ht := h.step ht
  gd _ h := h.good
  run _ h := h.b.run
  il s h := by have := h.small; omega
  fr s h := by have := h.small; omega
  de _ h := h.b.de.symm
  ed s h := by have := h.small; have := h.b.de; omega
  fit s h := h.b.fitl.fit (by have := h.small; omega)
end Go.Sl
set_option maxRecDepth 100000
namespace Go.Sl
open Go Go.Proofs
/-! From a world to the heaps of the proofs. -/
def Wh (W : World) : Heap := fun n => W.heap[n]?
theorem hcell_Wh (W : World) (a : Addr) : hcell (Wh W) a = W.cell? a := by
  unfold hcell Wh World.cell?
  cases W.heap[a.block]? with
  | none => rfl
  | some o => cases o <;> rfl
theorem fr_Wh (W : World) : Fr (Wh W) W emp ⟨emp, W.os, W.output⟩ :=
  ⟨fun _ => .inl rfl, fun n o h => (by cases h), fun n o h => (by cases h), fun n o h => ⟨h, rfl⟩, rfl, rfl⟩
theorem own_Wh (W : World) : Own (Wh W) emp [] := ⟨fun _ => .inl rfl, .nil, fun c hc => by cases hc⟩
theorem cell_Wh {W : World} {h : Heap} {L : List Heap} (hO : Own (Wh W) h L) {a : Addr} {v : Value} (hc : W.cell? a = some v) : hcell (rd (Wh W) h) a = some v := by
  have h1 : hcell (Wh W) a = some v := by rw [hcell_Wh]; exact hc
  unfold hcell at h1 ⊢
  obtain ⟨o, ho, hv⟩ := Option.bind_eq_some_iff.1 h1
  have h2 : rd (Wh W) h a.block = some o := by
    unfold rd
    rw [(hO.g a.block).resolve_right (by rw [ho]; simp)]
    exact ho
  rw [h2]; exact hv
theorem rdA_Wh {α : Type} {e : En α} {W : World} {a : Addr} {l : Nat} {xs : List α} (hl : l = xs.length) (h : ∀ i v, (e.F xs)[i]? = some v → W.cell? (a.add i) = some v) : RdA (Wh W) e (some a) l xs :=
  fun _ _ hO => ⟨hl, fun i v hv => cell_Wh hO (h i v hv)⟩
theorem rdA_nil {α : Type} {e : En α} {W : World} : RdA (Wh W) e none 0 ([] : List α) := fun _ _ _ => ⟨rfl, rfl⟩
/-- A call, out of what the proofs say of it. -/
theorem callSl_inv {P : Program} {G : Heap} {f : FuncId} {fn : Func} {args : Array Value} {K : Value → Heap → Prop} {Kp : PK} {h : Heap} (hf : P.funcs[f]? = some fn) (hb : fn.body.isNone = false)
    (hn : (fn.name == "runtime.NumGoroutine") = false) (hh : CallF P G f args K Kp h) : CallSl P G f args K Kp h := by
  unfold CallF slN callFunc at hh
  have e : ∀ (k : Program → Sem Next) (K : Next → Heap → Prop) (Kp : Value → Heap → Prop), sl P G ((program : Sem Program) >>= k) K Kp h → sl P G (k P) K Kp h := fun k K Kp h => h
  have h2 := e _ _ _ hh
  simp only [hf, hn, hb, Bool.false_eq_true, if_false] at h2
  exact h2
/-- What lies behind a call that owns nothing: all that was there is there still. -/
theorem call_world {P : Program} {f : FuncId} {fn : Func} {args : Array Value} {W : World} {r : Value} (hf : P.funcs[f]? = some fn) (hb : fn.body.isNone = false) (hn : (fn.name == "runtime.NumGoroutine") = false)
    (hh : CallF P (Wh W) f args (fun v _ => v = r) (fun _ _ => False) emp) :
    Calls P f args W fun e W' => e = .returned r ∧ ∃ W'', W'.Alike W'' ∧ RowKit.Below W.heap.size W W'' := by
  refine (callSl_inv hf hb hn hh W _ (fr_Wh W)).mono fun e W' he => ?_
  cases e with
  | outgrown => exact he.elim
  | panicked c => obtain ⟨_, h, _⟩ := he; exact h.elim
  | returned v =>
    obtain ⟨h', rfl, fr⟩ := he
    have hold : ∀ k o, W.heap[k]? = some o → W'.heap[k]? = some o := fun k o ho => (fr.glob k o ho).1
    refine ⟨rfl, { W with heap := W'.heap }, ⟨rfl, fr.same.1, fr.same.2⟩, rfl, rfl, rfl, ?_, fun k hk => ?_⟩
    · show W.heap.size ≤ W'.heap.size
      rcases Nat.eq_zero_or_pos W.heap.size with h0 | h0
      · omega
      · have := hold (W.heap.size - 1) _ (Array.getElem?_eq_getElem (by omega))
        have := (Array.getElem?_eq_some_iff.1 this).1
        omega
    · have := hold k _ (Array.getElem?_eq_getElem hk)
      show W'.heap[k]? = W.heap[k]?
      rw [this, Array.getElem?_eq_getElem hk]
/-! What a slice among the arguments holds. -/
theorem slice_v {P : Program} {W : World} {t e : TypeId} {v : Value} {r : Reach} {b : Nat} (ht : P.underlying t = some (.slice e)) (h : Value.okWide P W r b t v) : ∀ cs, v ≠ .agg cs := by
  intro cs hv
  subst hv
  simp [Value.okWide, ht, Cell.okWide, Cell.ok] at h
theorem slice_of {H : Type} {enc : TypeId × Value → H} {P : Program} {W : World} {α : Type} {e : En α} {t eT : TypeId} {v : Value} {d : DataW H} {p : List MemPlace} {r : Reach} {b : Nat} (ok : e.Ok) (ht : P.underlying t = some (.slice eT)) (hc : P.cellsOf eT = e.m)
    (hel : ∀ n cs y, DataW.trod enc P W 0 (fun _ => true) true n eT cs = some y → ∃ x, cs = e.E x) (hv : Value.okWide P W r b t v) (h : DataW.Trod enc P W 0 (fun _ => true) true t v d p) :
    ∃ pa l c xs, v = .slice pa l c ∧ RdA (Wh W) e pa l xs ∧ l ≤ 9223372036854775807 := by
  have hna := slice_v ht hv
  have hcs : v.cells.toList = [v] := by cases v <;> first | rfl | exact absurd rfl (hna _)
  obtain ⟨fuel, h⟩ := h
  rw [hcs] at h
  rcases DataW.trod_slice ht h with ⟨h1, _⟩ | ⟨a, len, cap, elems, rest, n, _, h1, _, _, hl, hcap, hlen, hE, _⟩
  · cases h1
    exact ⟨none, 0, 0, [], rfl, rdA_nil, by omega⟩
  · cases h1
    have hx : ∀ i, ∃ x, i < len → ∀ j v, (e.E x)[j]? = some v → W.cell? (a.add (i * e.m + j)) = some v := fun i => by
      by_cases hi : i < len
      · have h2 := hE i hi
        have h3 : elems[i]? = some (elems[i]'(by omega)) := List.getElem?_eq_getElem _
        rw [h3] at h2
        obtain ⟨cs, h4, h5⟩ := Option.bind_eq_some_iff.1 h2
        obtain ⟨x, rfl⟩ := hel _ _ _ h5
        refine ⟨x, fun _ j v hj => ?_⟩
        have hjm : j < e.m := by rw [← ok.hm x]; exact (List.getElem?_eq_some_iff.1 hj).1
        rw [hc] at h4
        have h6 := (World.cells?_some h4).2.2 j hjm
        have hadd : (a.add (i * e.m)).add j = a.add (i * e.m + j) := by
          unfold Addr.add
          by_cases h1 : i * e.m = 0
          · simp [h1]
          · by_cases h2 : j = 0
            · simp [h1, h2]
            · simp [h1, h2, Nat.add_assoc]
        rw [← hadd, h6]; exact hj
      · exact ⟨e.z, fun h => absurd h hi⟩
    obtain ⟨f, hf⟩ := Classical.skolem.1 hx
    refine ⟨some a, len, cap, (List.range len).map f, rfl, rdA_Wh (by simp) fun i v hv => ?_, by unfold maxLen at hcap; omega⟩
    have hpos := ok.pos
    have hlt : i < (e.F ((List.range len).map f)).length := (List.getElem?_eq_some_iff.1 hv).1
    rw [En.F_len ok, List.length_map, List.length_range] at hlt
    have hi : i / e.m < len := Nat.div_lt_of_lt_mul (by rw [Nat.mul_comm]; exact hlt)
    have hj : i % e.m < e.m := Nat.mod_lt _ hpos
    have hdm : i / e.m * e.m + i % e.m = i := by rw [Nat.mul_comm]; exact Nat.div_add_mod i e.m
    rw [← hdm]
    refine hf (i / e.m) hi (i % e.m) v ?_
    rw [← hdm, En.F_get ok (i := i / e.m) (x := f (i / e.m)) (by rw [List.getElem?_map, List.getElem?_range hi]; rfl) hj] at hv
    exact hv
end Go.Sl
