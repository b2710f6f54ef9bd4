/- P18.7: the changes turn the one text into the other. Part 10 of 12. -/
import Derived.OpenShut
import Derived.Test.YtdcgpdgokaephaaGreatDoorRows
import Derived.Test.YtdcgpdgokaephaaGreatDoorRf9
set_option linter.unusedVariables false
set_option linter.unusedSimpArgs false
set_option linter.unusedSectionVars false
set_option maxRecDepth 100000
namespace Go.Sl
open Go Go.Proofs Go.Proofs.YtdcgpdgokaephaaGreatDoor
def laidL : List (String × DataW Unit) := [("errors.errorType", Rows.laid_errors_errorType), ("jotter/octet.table", Rows.laid_jotter_octet_table), ("jotter/ot.rules", Rows.laid_jotter_ot_rules), ("jotter/wire.size", Rows.laid_jotter_wire_size), ("jotter/wire.shapes", Rows.laid_jotter_wire_shapes), ("jotter/wire.itemShapes", Rows.laid_jotter_wire_itemShapes), ("jotter/wire.itemFields", Rows.laid_jotter_wire_itemFields)]
theorem var_obj {P : Program} {W : World} {n : String} {g : Nat} {cs : Array Value} (hg : P.globalNamed n = some g) (h : W.var? P n = some cs) : ∃ t z, Wh W g = some (.cells cs t z) := by
 simp only [World.var?, hg, Option.bind_some] at h
 unfold Wh
 split at h
 ·rename_i cs' t z e; cases h; exact ⟨t, z, e⟩
 ·cases h
theorem laid_reads {W : World} (h : laidMetH Tryz.prog laidL W) {n : String} {d : DataW Unit} (hm : (n, d) ∈ laidL) (hn : d.handleName?.isNone = true) : Lib.VarReads Tryz.prog W n d :=
 Lib.laidMet.reads (laidMetH_iff.1 h).1 (List.mem_filter.2 ⟨hm, hn⟩)
theorem mapI {k : IntKind} {e : En Int} (he : ∀ x, e.E x = [.int k x]) (zs : List Int) : e.F zs = zs.map λ z => .int k z := by
 unfold En.F
 induction zs with
 | nil => rfl
 | cons z zs ih => rw [List.flatMap_cons, ih, he]; rfl
theorem tab_obj {W : World} {n : String} {g t eT m : Nat} {k : IntKind} {zs : List Int} {e : En Int} (he : ∀ x, e.E x = [.int k x]) (hg : Tryz.prog.globalNamed n = some g) (hty : (Tryz.prog.globals[g]?).map (·.type) = some t) (ht : Tryz.prog.underlying t = some (.array m eT)) (hi : Tryz.prog.underlying eT = some (.int k)) (hce : Tryz.prog.cellsOf eT = 1) (hct : Tryz.prog.cellsOf t = m)
  (h : Lib.VarReads Tryz.prog W n (Lib.tabData k zs)) : ∃ t z, Wh W g = some (.cells (e.F zs).toArray t z) := by
 obtain ⟨g', t', cs, fuel, p, hg', ht', hvar, hd⟩ := h
 obtain rfl := Option.some.inj (hg.symm.trans hg')
 obtain rfl := Option.some.inj (hty.symm.trans ht')
 have hcs := Lib.cells_of_tab ht hi hce hct hd
 obtain ⟨t2, z, h2⟩ := var_obj hg hvar
 refine ⟨t2, z, ?_⟩
 rw [h2, mapI he, <- hcs]
theorem err_uniq : ((List.range Tryz.prog.types.size).all λ t => !Tryz.prog.rowNamed t [101, 114, 114, 111, 114] || t == 78) = true := by kernel_rfl
theorem et_of {W : World} (h : laidMetH Tryz.prog laidL W) : ∃ t z, Wh W 2 = some (.cells #[.iface 291 (.agg #[.pointer (some ⟨7, 78, none⟩)])] t z) := by
 have h2 := (laidMetH_iff.1 h).2 ("errors.errorType", Rows.laid_errors_errorType) (List.mem_filter.2 ⟨by simp [laidL], by kernel_rfl⟩)
 have hf : (Rows.laid_errors_errorType (H := Unit)).funcsIn? = none := by kernel_rfl
 have hn : (Rows.laid_errors_errorType (H := Unit)).handleName? = some [101, 114, 114, 111, 114] := by kernel_rfl
 simp only [hf, hn] at h2
 obtain ⟨name, u, ty, h3, h4, h5, h6, h7⟩ := h2
 obtain rfl := (Option.some.inj h3).symm
 have hu : u = 291 := by
  have : (Tryz.prog.cutTypes.find? (·.1 == "internal/reflectlite.rtype")).map (·.2) = some 291 := by kernel_rfl
  rw [this] at h4; exact (Option.some.inj h4).symm
 have ht : ty = 78 := by
  have := List.all_eq_true.1 err_uniq ty (List.mem_range.2 h5)
  rw [h6] at this
  simpa using this
 subst hu; subst ht
 have hg : Tryz.prog.globals.size = 7 := by kernel_rfl
 unfold typeHandle at h7
 rw [hg] at h7
 exact var_obj (by kernel_rfl) h7
theorem gl_of {W : World} (h : laidMetH Tryz.prog laidL W) : Gl (Wh W) :=
 ⟨tab_obj (t := 322) (eT := 239) (λ _ => rfl) (by kernel_rfl) (by kernel_rfl) Tryz.underlying322 Tryz.underlying239 (by kernel_rfl) (by kernel_rfl) (laid_reads h (n := "jotter/octet.table") (d := Rows.laid_jotter_octet_table) (by simp [laidL]) (by kernel_rfl)), et_of h⟩
def sliceD (s : List Int) : DataW Unit := match s with
 | [] => .nil
 | s => .slice (s.map λ z => .lit (.int .i64 z)) []
theorem ints_slice {W : World} {fuel : Nat} {c : Value} {s : List Int} {q : List MemPlace} (h : DataW.trod (λ _ => ()) Tryz.prog W 0 (λ _ => true) false fuel 23 [c] = some (sliceD s, q)) :
  ∃ hd : Option Addr × Nat × Nat, c = .slice hd.1 hd.2.1 hd.2.2 /\ RdA (Wh W) eI hd.1 hd.2.1 s := by
 cases s with
 | nil =>
  rcases DataW.trod_slice Tryz.underlying23 h with ⟨h1, _⟩ | ⟨a, len, cap, elems, rest, n, _, _, hx, _⟩
  ·cases h1; exact ⟨(none, 0, 0), rfl, rdA_nil⟩
  ·cases hx
 | cons z s =>
  obtain ⟨a, cap, hc, _, hel⟩ := open_row (ds := (z :: s).map λ z => (DataW.lit (.int .i64 z) : DataW Unit)) Tryz.underlying23 (by kernel_rfl) h
  cases hc
  refine ⟨(some a, _, cap), rfl, ?_⟩
  refine rdA_Wh (by simp) λ i v hv => ?_
  rw [mapI (k := .i64) (λ _ => rfl), List.getElem?_map] at hv
  obtain ⟨y, hy, rfl⟩ := Option.map_eq_some_iff.1 hv
  obtain ⟨v, n, q, h1, h2⟩ := hel i (.lit (.int .i64 y)) (by rw [List.getElem?_map, hy]; rfl)
  obtain ⟨m, h3, h4, _⟩ := DataW.trod_int Tryz.underlying3 h2
  cases h3
  cases h4
  exact h1
theorem shapes_obj {W : World} {n : String} {g t m : Nat} {ss : List (List Int)} (hg : Tryz.prog.globalNamed n = some g) (hty : (Tryz.prog.globals[g]?).map (·.type) = some t) (ht : Tryz.prog.underlying t = some (.array m 23)) (hct : Tryz.prog.cellsOf t = m) (hm : ss.length = m)
  (h : Lib.VarReads Tryz.prog W n (.agg (ss.map sliceD))) : ∃ hs t z, Wh W g = some (.cells (eSl.F hs).toArray t z) /\ hs.length = m /\ ∀ (i : Nat) (hd : Option Addr × Nat × Nat) (s : List Int), hs[i]? = some hd -> ss[i]? = some s -> RdA (Wh W) eI hd.1 hd.2.1 s := by
 obtain ⟨g', t', cs, fuel, p, hg', ht', hvar, hd⟩ := h
 obtain rfl := Option.some.inj (hg.symm.trans hg')
 obtain rfl := Option.some.inj (hty.symm.trans ht')
 obtain ⟨_, _, _, _, hlen, _, _⟩ := DataW.trod_array ht hd
 rw [hct] at hlen
 have hx : ∀ i, ∃ hd : Option Addr × Nat × Nat, i < m -> cs.toList[i]? = some (.slice hd.1 hd.2.1 hd.2.2) /\ ∀ s, ss[i]? = some s -> RdA (Wh W) eI hd.1 hd.2.1 s := λ i => by
  by_cases hi : i < m
  ·obtain ⟨f', d, q, h1, h2⟩ := Lib.array_elem ht hd i hi
   rw [List.getElem?_map] at h1
   obtain ⟨s, hs, rfl⟩ := Option.map_eq_some_iff.1 h1
   rw [show Tryz.prog.cellsOf 23 = 1 by kernel_rfl, Nat.mul_one] at h2
   have hc : (cs.toList.drop i).take 1 = [cs.toList[i]'(by omega)] := by
    rw [List.drop_eq_getElem_cons (by omega)]; rfl
   rw [hc] at h2
   obtain ⟨hd, h3, h4⟩ := ints_slice h2
   refine ⟨hd, λ _ => ⟨by rw [List.getElem?_eq_getElem (by omega), h3], λ s' hs' => ?_⟩⟩
   rw [hs] at hs'; cases hs'; exact h4
  ·exact ⟨(none, 0, 0), λ h => absurd h hi⟩
 obtain ⟨f, hf⟩ := Classical.skolem.1 hx
 obtain ⟨t2, z, h2⟩ := var_obj hg hvar
 refine ⟨(List.range m).map f, t2, z, ?_, by simp, λ i hd s h3 h4 => ?_⟩
 ·rw [h2]
  congr 2
  apply Array.ext'
  rw [List.toList_toArray]
  apply List.ext_getElem?
  intro i
  by_cases hi : i < m
  ·rw [(hf i hi).1]
   have := En.F_get eSl_ok (xs := (List.range m).map f) (i := i) (j := 0) (x := f i) (by rw [List.getElem?_map, List.getElem?_range hi]; rfl) (by decide)
   rw [show i * eSl.m + 0 = i by simp [eSl]] at this
   rw [this]; rfl
  ·rw [List.getElem?_eq_none (by omega), List.getElem?_eq_none (by rw [En.F_len eSl_ok]; simp [eSl]; omega)]
 ·have hi : i < m := by
   have := (List.getElem?_eq_some_iff.1 h4).1
   omega
  rw [List.getElem?_map, List.getElem?_range hi] at h3
  cases h3
  exact (hf i hi).2 s h4
theorem gw_of {W : World} (h : laidMetH Tryz.prog laidL W) : Gw (Wh W) where
 size := tab_obj (t := 201) (eT := 3) (λ _ => rfl) (by kernel_rfl) (by kernel_rfl) Tryz.underlying201 Tryz.underlying3 (by kernel_rfl) (by kernel_rfl) (laid_reads h (n := "jotter/wire.size") (d := Rows.laid_jotter_wire_size) (by simp [laidL]) (by kernel_rfl))
 fields := tab_obj (t := 205) (eT := 3) (λ _ => rfl) (by kernel_rfl) (by kernel_rfl) Tryz.underlying205 Tryz.underlying3 (by kernel_rfl) (by kernel_rfl) (laid_reads h (n := "jotter/wire.itemFields") (d := Rows.laid_jotter_wire_itemFields) (by simp [laidL]) (by kernel_rfl))
 shapes := shapes_obj (t := 265) (by kernel_rfl) (by kernel_rfl) Tryz.underlying265 (by kernel_rfl) rfl (laid_reads h (n := "jotter/wire.shapes") (d := Rows.laid_jotter_wire_shapes) (by simp [laidL]) (by kernel_rfl))
 items := shapes_obj (t := 204) (by kernel_rfl) (by kernel_rfl) Tryz.underlying204 (by kernel_rfl) rfl (laid_reads h (n := "jotter/wire.itemShapes") (d := Rows.laid_jotter_wire_itemShapes) (by simp [laidL]) (by kernel_rfl))
def ruleB (i j : Nat) : List UInt8 := match i, j with
 | 1, 1 => [106, 111, 116, 116, 101, 114, 47, 111, 116, 46, 105, 110, 115, 101, 114, 116, 80, 97, 115, 116, 73, 110, 115, 101, 114, 116]
 | 1, 2 => [106, 111, 116, 116, 101, 114, 47, 111, 116, 46, 105, 110, 115, 101, 114, 116, 80, 97, 115, 116, 68, 101, 108, 101, 116, 101]
 | 2, 1 => [106, 111, 116, 116, 101, 114, 47, 111, 116, 46, 100, 101, 108, 101, 116, 101, 80, 97, 115, 116, 73, 110, 115, 101, 114, 116]
 | 2, 2 => [106, 111, 116, 116, 101, 114, 47, 111, 116, 46, 100, 101, 108, 101, 116, 101, 80, 97, 115, 116, 68, 101, 108, 101, 116, 101]
 | _, _ => [106, 111, 116, 116, 101, 114, 47, 111, 116, 46, 115, 116, 97, 121, 115]
def rulesD : DataW (List UInt8) := .agg ((List.range 3).map λ i => .agg ((List.range 3).map λ j => .held (ruleB i j)))
theorem gt_of {W : World} (h : laidMetH Tryz.prog laidL W) : Gt (Wh W) := by
 obtain ⟨g, t, cs, fuel, p, hg, hty, hvar, hd⟩ := h.funcs (n := "jotter/ot.rules") (d := .agg [.agg [.iface "func" (.lit (.string (ruleB 0 0))), .iface "func" (.lit (.string (ruleB 0 1))), .iface "func" (.lit (.string (ruleB 0 2)))], .agg [.iface "func" (.lit (.string (ruleB 1 0))), .iface "func" (.lit (.string (ruleB 1 1))), .iface "func" (.lit (.string (ruleB 1 2)))], .agg [.iface "func" (.lit (.string (ruleB 2 0))), .iface "func" (.lit (.string (ruleB 2 1))), .iface "func" (.lit (.string (ruleB 2 2)))]]) (by
  refine List.mem_cons_of_mem _ (List.mem_cons_of_mem _ (List.mem_cons.2 (.inl ?_)))
  rfl)
 obtain rfl := Option.some.inj ((show Tryz.prog.globalNamed "jotter/ot.rules" = some 6 by kernel_rfl).symm.trans hg)
 obtain rfl := Option.some.inj ((show (Tryz.prog.globals[6]?).map (·.type) = some 333 by kernel_rfl).symm.trans hty)
 have hd' : DataW.trod (funcToken Tryz.prog) Tryz.prog W 0 (λ _ => true) true fuel 333 cs.toList = some (rulesD, p) := hd
 have ce : Tryz.prog.cellsOf 332 = 3 := by kernel_rfl
 have ce1 : Tryz.prog.cellsOf 331 = 1 := by kernel_rfl
 obtain ⟨_, _, _, _, hlen, _, _⟩ := DataW.trod_array Tryz.underlying333 hd'
 rw [show Tryz.prog.cellsOf 333 = 9 by kernel_rfl] at hlen
 have hx : ∀ i j, i < 3 -> j < 3 -> ∃ v n q, cs.toList[i * 3 + j]? = some v /\ DataW.trod (funcToken Tryz.prog) Tryz.prog W 0 (λ _ => true) true n 331 [v] = some (.held (ruleB i j), q) := λ i j hi hj => by
  obtain ⟨f1, d1, q1, h1, h2⟩ := Lib.array_elem Tryz.underlying333 hd' i hi
  rw [List.getElem?_map, List.getElem?_range hi] at h1
  cases h1
  rw [ce] at h2
  obtain ⟨f2, d2, q2, h3, h4⟩ := Lib.array_elem Tryz.underlying332 h2 j hj
  rw [List.getElem?_map, List.getElem?_range hj] at h3
  cases h3
  rw [ce1, Nat.mul_one] at h4
  have hb : i * 3 + j < cs.toList.length := by omega
  have hc : (((cs.toList.drop (i * 3)).take 3).drop j).take 1 = [cs.toList[i * 3 + j]'hb] := by
   rw [List.drop_take, List.drop_drop, List.drop_eq_getElem_cons (by omega), show 3 - j = (2 - j) + 1 by omega, List.take_succ_cons, List.take_succ_cons, List.take_zero]
  rw [hc] at h4
  exact ⟨_, _, _, List.getElem?_eq_getElem _, h4⟩
 have one : ∀ i j b r f0, ruleB i j = b :: r -> ((List.range Tryz.prog.funcs.size).filter λ f => (Tryz.prog.funcs[f]?).any (·.name.toUTF8.data.toList == b :: r)) = [f0] -> i < 3 -> j < 3 -> cs.toList[i * 3 + j]? = some (fnV f0) := λ i j b r f0 hb hone hi hj => by
  obtain ⟨v, n, q, h1, h2⟩ := hx i j hi hj
  rw [hb] at h2
  rw [h1, func_of_trod Tryz.underlying331 hone h2]
  rfl
 have ns : ((List.range Tryz.prog.funcs.size).filter λ f => (Tryz.prog.funcs[f]?).any (·.name.toUTF8.data.toList == [106, 111, 116, 116, 101, 114, 47, 111, 116, 46, 115, 116, 97, 121, 115])) = [233] := by kernel_rfl
 obtain ⟨t, z, ho⟩ := var_obj (by kernel_rfl) hvar
 refine ⟨t, z, ?_⟩
 rw [ho]
 congr 2
 apply Array.ext'
 have c00 := one 0 0 _ _ _ rfl ns (by decide) (by decide)
 have c01 := one 0 1 _ _ _ rfl ns (by decide) (by decide)
 have c02 := one 0 2 _ _ _ rfl ns (by decide) (by decide)
 have c10 := one 1 0 _ _ _ rfl ns (by decide) (by decide)
 have c11 := one 1 1 _ _ 234 rfl (by kernel_rfl) (by decide) (by decide)
 have c12 := one 1 2 _ _ 235 rfl (by kernel_rfl) (by decide) (by decide)
 have c20 := one 2 0 _ _ _ rfl ns (by decide) (by decide)
 have c21 := one 2 1 _ _ 236 rfl (by kernel_rfl) (by decide) (by decide)
 have c22 := one 2 2 _ _ 237 rfl (by kernel_rfl) (by decide) (by decide)
 apply List.ext_getElem?
 intro i
 match i with
 | 0 => exact c00
 | 1 => exact c01
 | 2 => exact c02
 | 3 => exact c10
 | 4 => exact c11
 | 5 => exact c12
 | 6 => exact c20
 | 7 => exact c21
 | 8 => exact c22
 | n + 9 => rw [List.getElem?_eq_none (by omega)]; rfl
end Go.Sl
