/- P18.7: the changes turn the one text into the other. Part 2 of 12. -/
import Derived.RangeFuncIn
import Derived.RangeFuncLeaves
import Derived.OrdersIn
import Derived.KernelRfl
import Derived.Test.YtdcgpdgokaephaaGreatDoorProg
import Derived.Test.YtdcgpdgokaephaaGreatDoorRf1
set_option linter.unusedVariables false
set_option linter.unusedSimpArgs false
set_option linter.unusedSectionVars false
namespace Go.Sl
open Go
theorem sl_firstCells {P : Program} {G h : Heap} {α : Type} {e : En α} {p : Option Addr} {l c : Nat} {xs : List α} (hr : RdS G h e p l xs) (ok : e.Ok) {β : Type} {f : Array Value -> Sem β} {K : β -> Heap -> Prop} {Kp : Value -> Heap -> Prop}
  (hk : sl P G (f (e.F xs).toArray) K Kp h) : sl P G (Builtin.firstCells e.m l (.slice p l c) >>= f) K Kp h := by
 obtain ⟨h1, h2⟩ := hr
 cases p with
 | none =>
  simp only at h2
  have : xs = [] := by cases xs with
   | nil => rfl
   | cons => simp at h1; omega
  subst this
  exact hk
 | some a =>
  show sl P G (loadCellsFrom a 0 (l * e.m) #[] >>= f) K Kp h
  rw [h1, <- En.F_len ok]
  refine sl_loadV a (e.F xs) 0 #[] (λ j v hj => by rw [Nat.zero_add]; exact h2 j v hj) ?_
  simpa using hk
theorem zok_mono {z : Nat × Nat} {m n : Nat} (h : zok z n) (hm : m <= n) : zok z m := λ i hi => h i (by omega)
theorem zok_0 (n : Nat) : zok (0, 0) n := λ i _ => by simp
theorem Own.drop2 {G h a b : Heap} {L : List Heap} (hO : Own G h (a :: b :: L)) : Own G h (a :: L) :=
 ⟨hO.g, by
  obtain ⟨h1, h2⟩ := List.pairwise_cons.1 hO.pw
  exact List.pairwise_cons.2 ⟨λ c hc => h1 c (by simp [hc]), (List.pairwise_cons.1 h2).2⟩, λ c hc => hO.sub c (by
  rcases List.mem_cons.1 hc with rfl | hc
  ·simp
  ·simp [hc])⟩
theorem append_go {P : Program} {G h : Heap} {L R : List Heap} {α : Type} {e : En α} {tS tX : TypeId} (T : SlT P tS e) {fX : TypeId} (hX : P.underlying tX = some (.slice fX)) {p p2 : Option Addr} {l c l2 c2 : Nat} {xs ys : List α} {pc : Heap}
  (hO : Own G h L) (t : (pc :: R).Perm L) (hs : Sli e p l c xs pc) (hr : RdS G h e p2 l2 ys) (hsm : l + l2 <= 4294967296)
  {K : Value -> Heap -> Prop} {Kp : PK} (hk : ∀ h' p' c' pc', Sli e p' (l + l2) c' (xs ++ ys) pc' -> Own G h' (pc' :: R) -> K (.slice p' (l + l2) c') h') :
  slV P G (Builtin.append_ #[tS, tX] tS #[.slice p l c, .slice p2 l2 c2]) K Kp h := by
 have hO' := hO.perm t
 obtain ⟨i, hi, hsz, hby, zv, hz, hzc⟩ := T.info
 unfold slV slN Builtin.append_
 simp only [List.getElem?_toArray, List.getElem?_cons_zero, List.getElem?_cons_succ]
 rw [bind_assoc']
 refine sl_bindPr (pr_underlying T.ud) ?_
 dsimp only
 rw [bind_assoc']
 refine sl_bindPr (pr_sizeOf hi) ?_
 rw [bind_assoc']
 simp only [pure_bind', bind_assoc' (underlying tX)]
 refine sl_bindPr (pr_underlying hX) ?_
 simp only [Bool.false_eq_true, if_false, Builtin.lenOf, pure_bind', Bool.not_false, if_true, false_or]
 rw [hsz]
 have hl := hs.len
 have hl2 := hr.1
 by_cases hle : l + l2 <= c
 ·rw [if_pos hle, bind_assoc']
  refine sl_firstCells hr T.ok ?_
  cases hs with
  | no =>
   have h0 : l2 = 0 := by omega
   have hy : ys = [] := List.length_eq_zero_iff.1 (by omega)
   subst hy
   subst h0
   exact hk h none 0 emp .no hO'
  | bk js z hz' =>
   rename_i b
   dsimp only
   simp only [bind_assoc', pure_bind', add_mk, Nat.zero_add]
   have hfl : (e.F (xs ++ js)).length = (xs.length + js.length) * e.m := by rw [En.F_len T.ok]; simp
   have hyl : (e.F ys).length = ys.length * e.m := En.F_len T.ok ys
   have hmul : xs.length * e.m + ys.length * e.m <= (xs.length + js.length) * e.m := by rw [<- Nat.add_mul]; exact Nat.mul_le_mul_right _ (by omega)
   have hb := hO'.find (Find.here b (blk e z (xs ++ js)) R)
   refine sl_storeCells _ _ 0 ?_
   refine stL_blk (a := ⟨b, xs.length * e.m, none⟩) rfl (cs := e.F (xs ++ js)) (t := e.t) (z := z) _ hb (λ i hi => hz' i (by rw [hfl] at hi; simpa using hi)) (λ v hv => En.F_plain T.ok ys v hv) (by simp only [hfl]; rw [hyl]; omega) ?_
   have hw : wr (e.F (xs ++ js)) (xs.length * e.m) (e.F ys) = e.F (xs ++ ys ++ js.drop ys.length) := by
    have h1 : (e.F xs).length = xs.length * e.m := En.F_len T.ok xs
    unfold wr
    rw [En.F_app, <- h1, List.take_left, List.drop_append, En.F_app, En.F_app]
    congr 1
    rw [show (e.F xs).length + (e.F ys).length - (e.F xs).length = (e.F ys).length by omega, List.drop_eq_nil_of_le (by omega), List.nil_append, hyl]
    have hjs : js = js.take ys.length ++ js.drop ys.length := (List.take_append_drop _ _).symm
    have h3 : (e.F (js.take ys.length)).length = ys.length * e.m := by rw [En.F_len T.ok]; simp; rw [Nat.min_eq_left (by omega)]
    conv => lhs; rw [hjs, En.F_app, <- h3, List.drop_left]
   have hset := hO'.set (Find.here b (blk e z (xs ++ js)) R) (blk e z (xs ++ ys ++ js.drop ys.length))
   show K _ _
   simp only [Nat.add_zero, hw]
   refine hk _ _ _ _ ?_ hset
   have := Sli.bk (e := e) (b := b) (xs := xs ++ ys) (js.drop ys.length) z (zok_mono hz' (Nat.mul_le_mul_right _ (by simp; omega)))
   simp only [List.length_append, List.length_drop] at this
   rw [show xs.length + ys.length + (js.length - ys.length) = xs.length + js.length by omega] at this
   rw [hl2]; exact this
 ·rw [if_neg hle, bind_assoc']
  refine sl_bindPr (pr_typeInfo hi) ?_
  have hmax : IntKind.i64.max = 9223372036854775807 := by decide
  rw [if_neg (by rw [hmax]; omega), bind_assoc']
  refine sl_bindPr (pr_typeInfo hi) ?_
  have hcap := nextcap_le (need := l + l2) (cap := c) (by omega)
  have : Builtin.nextslicecap (l + l2) c * i.bytes <= 2 ^ 48 := Nat.le_trans (Nat.mul_le_mul hcap hby) (by omega)
  rw [if_neg (by omega), bind_assoc']
  refine sl_choose (.inr rfl) λ tt => ?_
  generalize hn : (Question.appendCap (l + l2) c e.t).cut tt = nc
  have hnc : l + l2 <= nc := by rw [<- hn]; simp only [Question.cut]; omega
  rw [bind_assoc']
  refine sl_bindPr (pr_typeInfo hi) ?_
  rw [bind_assoc']
  refine sl_askRoom ?_
  rw [bind_assoc']
  refine sl_firstCells (hs.rd hO' (by simp)) T.ok ?_
  rw [bind_assoc']
  refine sl_firstCells hr T.ok ?_
  rw [bind_assoc']
  refine sl_bindPr (pr_zeroValue hi hz) ?_
  rw [hzc, repeat_F T.ok]
  unfold newRow
  simp only [bind_assoc', pure_bind']
  refine sl_new λ r h1 h2 => ?_
  have hnew := (hO'.new h1 h2 (blk e (0, 0) (xs ++ ys ++ List.replicate (nc - (l + l2)) e.z))).drop2
  have hx : (e.F xs).toArray ++ (e.F ys).toArray ++ (e.F (List.replicate (nc - (l + l2)) e.z)).toArray = (e.F (xs ++ ys ++ List.replicate (nc - (l + l2)) e.z)).toArray := by
   apply Array.ext'; simp [En.F_app]
  rw [hx]
  show K _ _
  have := Sli.bk (e := e) (b := r) (xs := xs ++ ys) (List.replicate (nc - (l + l2)) e.z) (0, 0) (zok_0 _)
  simp only [List.length_append, List.length_replicate] at this
  rw [<- hl, <- hl2, show l + l2 + (nc - (l + l2)) = nc by omega] at this
  exact hk _ _ _ _ this hnew
end Go.Sl
namespace Go.Sl
open Go
theorem copy_go {P : Program} {G h : Heap} {L R : List Heap} {α : Type} {e : En α} {tS tX tR : TypeId} (T : SlT P tS e) {p p2 : Option Addr} {l c l2 c2 : Nat} {xs ys : List α} {pc : Heap}
  (hO : Own G h L) (t : (pc :: R).Perm L) (hs : Sli e p l c xs pc) (hr : RdS G h e p2 l2 ys) (k : Nat) (hk0 : k + l2 <= l)
  {K : Value -> Heap -> Prop} {Kp : PK} (hk : ∀ h' pc', Sli e p l c (xs.take k ++ ys ++ xs.drop (k + l2)) pc' -> Own G h' (pc' :: R) -> K (.int .i64 l2) h')
  {p1 : Option Addr} {l1 c1 : Nat} (hp1 : p1 = p.map (·.add (k * e.m))) (hl1 : l2 <= l1) :
  slV P G (Builtin.copy_ #[tS, tX] tR #[.slice p1 l1 c1, .slice p2 l2 c2]) K Kp h := by
 have hO' := hO.perm t
 obtain ⟨i, hi, hsz, hby, zv, hz, hzc⟩ := T.info
 unfold slV slN Builtin.copy_
 simp only [List.getElem?_toArray, List.getElem?_cons_zero, List.getElem?_cons_succ]
 rw [bind_assoc']
 refine sl_bindPr (pr_underlying T.ud) ?_
 dsimp only
 simp only [Builtin.lenOf, pure_bind']
 rw [bind_assoc']
 refine sl_bindPr (pr_sizeOf hi) ?_
 have hmin : Nat.min l2 l1 = l2 := Nat.min_eq_left hl1
 rw [hmin, bind_assoc', hsz]
 have hl := hs.len
 have hl2 := hr.1
 refine sl_firstCells hr T.ok ?_
 cases hs with
 | no =>
  have h0 : l2 = 0 := by omega
  have hk00 : k = 0 := by omega
  have hy : ys = [] := List.length_eq_zero_iff.1 (by omega)
  subst hy; subst h0; subst hp1; subst hk00
  exact hk h emp .no hO'
 | bk js z hz' =>
  rename_i b
  subst hp1
  dsimp only [Option.map]
  simp only [bind_assoc', pure_bind', add_mk, Nat.zero_add]
  have hfl : (e.F (xs ++ js)).length = (xs.length + js.length) * e.m := by rw [En.F_len T.ok]; simp
  have hyl : (e.F ys).length = ys.length * e.m := En.F_len T.ok ys
  have hmul : k * e.m + ys.length * e.m <= xs.length * e.m := by rw [<- Nat.add_mul]; exact Nat.mul_le_mul_right _ (by omega)
  have hmul2 : (xs.length + js.length) * e.m = xs.length * e.m + js.length * e.m := Nat.add_mul _ _ _
  have hb := hO'.find (Find.here b (blk e z (xs ++ js)) R)
  refine sl_storeCells _ _ 0 ?_
  refine stL_blk (a := ⟨b, k * e.m, none⟩) rfl (cs := e.F (xs ++ js)) (t := e.t) (z := z) _ hb (λ i hi => hz' i (by rw [hfl] at hi; simpa using hi)) (λ v hv => En.F_plain T.ok ys v hv) (by simp only [hfl]; rw [hyl]; omega) ?_
  have hw : wr (e.F (xs ++ js)) (k * e.m) (e.F ys) = e.F (xs.take k ++ ys ++ xs.drop (k + l2) ++ js) := by
   have h1 : (e.F (xs.take k)).length = k * e.m := by rw [En.F_len T.ok]; simp; rw [Nat.min_eq_left (by omega)]
   have h2 : (e.F ((xs.drop k).take l2)).length = ys.length * e.m := by rw [En.F_len T.ok]; simp; rw [Nat.min_eq_left (by omega), hl2]
   have hsp : xs = xs.take k ++ ((xs.drop k).take l2 ++ xs.drop (k + l2)) := by
    rw [<- List.drop_drop, List.take_append_drop, List.take_append_drop]
   unfold wr
   conv => lhs; rw [hsp]
   simp only [En.F_app, List.append_assoc]
   rw [<- h1, List.take_left, hyl]
   congr 1
   congr 1
   rw [<- h2, <- List.drop_drop, List.drop_left, List.drop_left]
  have hset := hO'.set (Find.here b (blk e z (xs ++ js)) R) (blk e z (xs.take k ++ ys ++ xs.drop (k + l2) ++ js))
  show K _ _
  simp only [Nat.add_zero, hw]
  refine hk _ _ ?_ hset
  have hlen : (xs.take k ++ ys ++ xs.drop (k + l2)).length = xs.length := by simp; omega
  have := Sli.bk (e := e) (b := b) (xs := xs.take k ++ ys ++ xs.drop (k + l2)) js z (by rw [List.length_append, hlen, <- List.length_append]; exact hz')
  rw [hlen] at this
  exact this
theorem make_go {P : Program} {G h : Heap} {L : List Heap} {α : Type} {e : En α} {tS : TypeId} (T : SlT P tS e) {n c : Int} (hO : Own G h L) (h0 : 0 <= n) (hnc : n <= c) (hc : c <= 4294967296)
  {K : Value -> Heap -> Prop} {Kp : PK} (hk : ∀ h' b pc', Sli e (some ⟨b, 0, none⟩) n.toNat c.toNat (List.replicate n.toNat e.z) pc' -> Own G h' (pc' :: L) -> K (.slice (some ⟨b, 0, none⟩) n.toNat c.toNat) h') :
  slV P G (Instr.makeSlice tS (.int .i64 n) (.int .i64 c)) K Kp h := by
 obtain ⟨i, hi, hsz, hby, zv, hz, hzc⟩ := T.info
 unfold slV slN Instr.makeSlice
 rw [bind_assoc']
 refine sl_bindPr (pr_underlying T.ud) ?_
 dsimp only
 rw [bind_assoc']
 refine sl_bindPr (v := n) rfl ?_
 rw [bind_assoc']
 refine sl_bindPr (v := c) rfl ?_
 rw [bind_assoc']
 refine sl_bindPr (pr_typeInfo hi) ?_
 have hwn : IntKind.i64.wrap n = n := wrap_i64 (by omega) (by omega)
 have hwc : IntKind.i64.wrap c = c := wrap_i64 (by omega) (by omega)
 have hb : (i.bytes : Int) * c <= 1024 * 4294967296 := Int.mul_le_mul (by omega) hc (by omega) (by omega)
 have hb2 : (2 : Int) ^ 48 = 281474976710656 := by decide
 rw [hwn, hwc, if_neg (by simp only [Bool.or_eq_true, decide_eq_true_eq, hb2]; omega), bind_assoc']
 refine sl_askRoom ?_
 rw [bind_assoc']
 refine sl_bindPr (pr_sizeOf hi) ?_
 rw [hsz]
 have hfin : ∀ zs : Array Value, (Array.range (c.toNat * e.m)).map (λ x => zs[x % zs.size]!) = (e.F (List.replicate c.toNat e.z)).toArray -> sl P G (do
   let a <- newRow e.t ((Array.range (c.toNat * e.m)).map (λ x => zs[x % zs.size]!))
   pure (Next.value (Value.slice (some a) n.toNat c.toNat))) (nextK P G K Kp) (λ v h => Kp [{ v := v, recovered := false }] h) h := λ zs hzs => by
  rw [hzs]
  unfold newRow
  rw [bind_assoc']
  refine sl_new λ r h1 h2 => ?_
  have hsl := Sli.bk (e := e) (b := r) (xs := List.replicate n.toNat e.z) (List.replicate (c.toNat - n.toNat) e.z) (0, 0) (zok_0 _)
  have hcat : List.replicate n.toNat e.z ++ List.replicate (c.toNat - n.toNat) e.z = List.replicate c.toNat e.z := by
   rw [List.replicate_append_replicate]; congr 1; omega
  rw [hcat] at hsl
  simp only [List.length_replicate] at hsl
  rw [show n.toNat + (c.toNat - n.toNat) = c.toNat by omega] at hsl
  exact hk _ _ _ hsl (hO.new h1 h2 _)
 have hrep := repeat_F T.ok c.toNat
 unfold Builtin.zeroCells at hrep
 by_cases h00 : c.toNat * e.m = 0
 ·simp only [if_pos h00, pure_bind', bind_assoc']
  refine hfin #[] ?_
  have hc0 : c.toNat = 0 := by
   rcases Nat.mul_eq_zero.1 h00 with h | h
   ·exact h
   ·have := T.ok.pos; omega
  rw [hc0]; simp [En.F]
 ·simp only [if_neg h00, bind_assoc', pure_bind']
  refine sl_bindPr (pr_zeroValue hi hz) ?_
  refine hfin _ ?_
  rw [hzc]
  rw [show (e.E e.z).toArray.size = e.m by simp [T.ok.hm]] at hrep ⊢
  exact hrep
end Go.Sl
namespace Go.Sl
open Go
theorem NN.go {a : Addr} {K : Addr -> Prop} (h : K a) : NN (some a) K := h
theorem Rq.go {c K : Prop} (h1 : c) (h2 : K) : Rq c K := ⟨h1, h2⟩
theorem Rng.go {x : Int} {K : Prop} (h1 : -9223372036854775808 <= x /\ x <= 9223372036854775807) (h2 : K) : Rng x K := ⟨h1, h2⟩
theorem If.t {b : Bool} {A B : Prop} (hb : b = true) (h : A) : If b A B := by subst hb; exact h
theorem If.f {b : Bool} {A B : Prop} (hb : b = false) (h : B) : If b A B := by subst hb; exact h
theorem If.dec {c : Prop} [Decidable c] {A B : Prop} (h1 : c -> A) (h2 : ¬ c -> B) : If (decide c) A B := If.mk (λ e => h1 (by simpa using e)) (λ e => h2 (by simpa using e))
theorem hcell_own {G h : Heap} {L : List Heap} (hO : Own G h L) {a : Addr} {o : Obj} {u : Obj -> List Heap} (f : Find L a.block o u) {v : Value} (hc : ocell o a = some v) : hcell (rd G h) a = some v := by
 unfold hcell; rw [hO.rd f]; exact hc
theorem LdI.go {G h : Heap} {L : List Heap} {k : IntKind} {a : Addr} {K : Int -> Prop} {o : Obj} {u : Obj -> List Heap} {n : Int} (hO : Own G h L) [f : Find L a.block o u] (hc : ocell o a = some (.int k n)) (hk : K n) : LdI G h k a K := ⟨n, hcell_own hO f hc, hk⟩
theorem LdI.g {G h : Heap} {L : List Heap} {k : IntKind} {a : Addr} {K : Int -> Prop} {o : Obj} {u : Obj -> List Heap} {n : Int} (hO : Own G h L) [f : Find L a.block o u] (hk : K n) (hc : ocell o a = some (.int k n) := by with_unfolding_all rfl) : LdI G h k a K := LdI.go hO hc hk
theorem LdB.go {G h : Heap} {L : List Heap} {a : Addr} {K : Bool -> Prop} {o : Obj} {u : Obj -> List Heap} {n : Bool} (hO : Own G h L) [f : Find L a.block o u] (hc : ocell o a = some (.bool n)) (hk : K n) : LdB G h a K := ⟨n, hcell_own hO f hc, hk⟩
theorem LdB.g {G h : Heap} {L : List Heap} {a : Addr} {K : Bool -> Prop} {o : Obj} {u : Obj -> List Heap} {n : Bool} (hO : Own G h L) [f : Find L a.block o u] (hk : K n) (hc : ocell o a = some (.bool n) := by with_unfolding_all rfl) : LdB G h a K := LdB.go hO hc hk
theorem LdS.go {G h : Heap} {L : List Heap} {a : Addr} {K : ByteArray -> Prop} {o : Obj} {u : Obj -> List Heap} {n : ByteArray} (hO : Own G h L) [f : Find L a.block o u] (hc : ocell o a = some (.string n)) (hk : K n) : LdS G h a K := ⟨n, hcell_own hO f hc, hk⟩
theorem LdS.g {G h : Heap} {L : List Heap} {a : Addr} {K : ByteArray -> Prop} {o : Obj} {u : Obj -> List Heap} {n : ByteArray} (hO : Own G h L) [f : Find L a.block o u] (hk : K n) (hc : ocell o a = some (.string n) := by with_unfolding_all rfl) : LdS G h a K := LdS.go hO hc hk
theorem LdP.go {G h : Heap} {L : List Heap} {a : Addr} {K : Option Addr -> Prop} {o : Obj} {u : Obj -> List Heap} {n : Option Addr} (hO : Own G h L) [f : Find L a.block o u] (hc : ocell o a = some (.pointer n)) (hk : K n) : LdP G h a K := ⟨n, hcell_own hO f hc, hk⟩
theorem LdP.g {G h : Heap} {L : List Heap} {a : Addr} {K : Option Addr -> Prop} {o : Obj} {u : Obj -> List Heap} {n : Option Addr} (hO : Own G h L) [f : Find L a.block o u] (hk : K n) (hc : ocell o a = some (.pointer n) := by with_unfolding_all rfl) : LdP G h a K := LdP.go hO hc hk
theorem LdSl.go {G h : Heap} {L : List Heap} {a : Addr} {K : Option Addr -> Nat -> Nat -> Prop} {o : Obj} {u : Obj -> List Heap} {p : Option Addr} {l c : Nat} (hO : Own G h L) [f : Find L a.block o u] (hc : ocell o a = some (.slice p l c)) (hk : K p l c) : LdSl G h a K := ⟨p, l, c, hcell_own hO f hc, hk⟩
theorem LdSl.g {G h : Heap} {L : List Heap} {a : Addr} {K : Option Addr -> Nat -> Nat -> Prop} {o : Obj} {u : Obj -> List Heap} {p : Option Addr} {l c : Nat} (hO : Own G h L) [f : Find L a.block o u] (hk : K p l c) (hc : ocell o a = some (.slice p l c) := by with_unfolding_all rfl) : LdSl G h a K := LdSl.go hO hc hk
theorem LdM.go {G h : Heap} {L : List Heap} {a : Addr} {K : Option Nat -> Prop} {o : Obj} {u : Obj -> List Heap} {n : Option Nat} (hO : Own G h L) [f : Find L a.block o u] (hc : ocell o a = some (.map n)) (hk : K n) : LdM G h a K := ⟨n, hcell_own hO f hc, hk⟩
theorem LdM.g {G h : Heap} {L : List Heap} {a : Addr} {K : Option Nat -> Prop} {o : Obj} {u : Obj -> List Heap} {n : Option Nat} (hO : Own G h L) [f : Find L a.block o u] (hk : K n) (hc : ocell o a = some (.map n) := by with_unfolding_all rfl) : LdM G h a K := LdM.go hO hc hk
theorem LdV.go {G h : Heap} {L : List Heap} {a : Addr} {K : Value -> Prop} {o : Obj} {u : Obj -> List Heap} {n : Value} (hO : Own G h L) [f : Find L a.block o u] (hc : ocell o a = some n) (hk : K n) : LdV G h a K := ⟨n, hcell_own hO f hc, hk⟩
theorem LdV.g {G h : Heap} {L : List Heap} {a : Addr} {K : Value -> Prop} {o : Obj} {u : Obj -> List Heap} {n : Value} (hO : Own G h L) [f : Find L a.block o u] (hk : K n) (hc : ocell o a = some n := by with_unfolding_all rfl) : LdV G h a K := LdV.go hO hc hk
theorem cell_go {G h : Heap} {L : List Heap} {a : Addr} {K : Prop} {o : Obj} {u : Obj -> List Heap} {v : Value} (hO : Own G h L) [f : Find L a.block o u] (hc : ocell o a = some v) (hk : K) : hcell (rd G h) a = some v /\ K := ⟨hcell_own hO f hc, hk⟩
theorem cell_g {G h : Heap} {L : List Heap} {a : Addr} {K : Prop} {o : Obj} {u : Obj -> List Heap} {v : Value} (hO : Own G h L) [f : Find L a.block o u] (hk : K) (hc : ocell o a = some v := by with_unfolding_all rfl) : hcell (rd G h) a = some v /\ K := cell_go hO hc hk
def sto (o : Obj) (a : Addr) (v : Value) : Option Obj :=
 match o with
 | .cells ⟨c⟩ t z => if a.spot.isNone && Nat.blt a.off c.length && plainV v && !(Nat.ble z.1 a.off && Nat.blt a.off z.2) then some (.cells (c.set a.off v).toArray t z) else none
 | _ => none
theorem sto_ok {o o' : Obj} {a : Addr} {v : Value} (h : sto o a v = some o') : plainV v = true /\ (∃ u, ocell o a = some u) /\ ofrozen o a.off = false /\ oset o a.off v = o' := by
 unfold sto at h
 split at h
 ·rename_i c t z
  split at h
  ·rename_i hc
   simp only [Bool.and_eq_true, Option.isNone_iff_eq_none, Bool.not_eq_true', Nat.blt, Nat.ble_eq] at hc
   obtain ⟨⟨⟨h1, h2⟩, h3⟩, h4⟩ := hc
   cases h
   refine ⟨h3, ⟨c[a.off]'(by omega), ?_⟩, ?_, ?_⟩
   ·simp [ocell, h1]
   ·simp only [ofrozen]
    obtain ⟨lo, hi⟩ := z
    simp only [Bool.and_eq_false_iff, decide_eq_false_iff_not] at h4 ⊢
    simp only [<- Bool.not_eq_true, Nat.ble_eq] at h4
    omega
   ·simp [oset]
  ·cases h
 ·cases h
theorem st1.go {G h : Heap} {L : List Heap} {a : Addr} {v : Value} {K : Heap -> Prop} {o o' : Obj} {u : Obj -> List Heap} (hO : Own G h L) [f : Find L a.block o u] (hs : sto o a v = some o') (hk : ∀ h', Own G h' (u o') -> K h') : st1 a v K h := by
 obtain ⟨h1, h2, h3, h4⟩ := sto_ok hs
 refine ⟨h1, o, hO.find f, h2, h3, ?_⟩
 rw [h4]; exact hk _ (hO.set f o')
theorem st1.g {G h : Heap} {L : List Heap} {a : Addr} {v : Value} {K : Heap -> Prop} {o o' : Obj} {u : Obj -> List Heap} (hO : Own G h L) [f : Find L a.block o u] (hk : ∀ h', Own G h' (u o') -> K h') (hs : sto o a v = some o' := by with_unfolding_all rfl) : st1 a v K h := st1.go hO hs hk
theorem newK.go {G h : Heap} {L : List Heap} {o : Obj} {K : Nat -> Heap -> Prop} (hO : Own G h L) (hk : ∀ r h', Own G h' (single r o :: L) -> K r h') : newK G o K h := λ r h1 h2 => hk r _ (hO.new h1 h2 o)
theorem LoopS.go {init : List Value} {h0 : Heap} {body : (Nat -> Value) -> List Value -> (List Value -> Heap -> Prop) -> Heap -> Prop} (I : List Value -> Heap -> Prop) (μ : List Value -> Heap -> Nat) (h1 : I init h0)
  (h2 : ∀ jv vs h, I vs h -> body jv vs (λ vs' h' => I vs' h' /\ μ vs' h' < μ vs h) h) : LoopS init h0 body := ⟨I, μ, h1, h2⟩
theorem RdS.cell {α : Type} {e : En α} (ok : e.Ok) {G h : Heap} {a : Addr} {l : Nat} {xs : List α} (hr : RdS G h e (some a) l xs) (hsp : a.spot = none) {i j : Nat} {x : α} (hx : xs[i]? = some x) {v : Value} (hv : (e.E x)[j]? = some v) : hcell (rd G h) ⟨a.block, a.off + i * e.m + j, none⟩ = some v := by
 have hj : j < e.m := by rw [<- ok.hm x]; exact (List.getElem?_eq_some_iff.1 hv).1
 have := hr.2 (i * e.m + j) v (by rw [En.F_get ok hx hj]; exact hv)
 rw [add_none hsp, <- Nat.add_assoc] at this; exact this
theorem Sli_ex {α : Type} {e : En α} {p : Option Addr} {l c : Nat} {xs : List α} {pc : Heap} (h : Sli e p l c xs pc) (hl : 0 < l) : ∃ b, p = some ⟨b, 0, none⟩ := by
 cases h with
 | no => omega
 | bk js z hz => exact ⟨_, rfl⟩
end Go.Sl
namespace Go.Sl
open Go
def Rdl {α : Type} (L : List Heap) (e : En α) (p : Option Addr) (l : Nat) (xs : List α) : Prop := ∀ G h, Own G h L -> RdS G h e p l xs
theorem Own.mem {G h : Heap} {L M : List Heap} (hO : Own G h L) (hs : List.Sublist M L) : Own G h M :=
 ⟨hO.g, hO.pw.sublist hs, λ c hc => hO.sub c (hs.subset hc)⟩
theorem Rdl.cons {α : Type} {L : List Heap} {e : En α} {p : Option Addr} {l : Nat} {xs : List α} (h : Rdl L e p l xs) (c : Heap) : Rdl (c :: L) e p l xs := λ G h' hO => h G h' hO.tail
theorem Rdl.sub {α : Type} {L M : List Heap} {e : En α} {p : Option Addr} {l : Nat} {xs : List α} (h : Rdl L e p l xs) (hs : List.Sublist L M) : Rdl M e p l xs := λ G h' hO => h G h' (hO.mem hs)
theorem Rdl.perm {α : Type} {L M : List Heap} {e : En α} {p : Option Addr} {l : Nat} {xs : List α} (h : Rdl L e p l xs) (hs : L.Perm M) : Rdl M e p l xs := λ G h' hO => h G h' (hO.perm hs)
theorem Sli.rdl {α : Type} {e : En α} {p : Option Addr} {l c : Nat} {xs : List α} {pc : Heap} (hs : Sli e p l c xs pc) {L : List Heap} (hc : pc ∈ L) : Rdl L e p l xs := λ _ _ hO => hs.rd hO hc
theorem Rdl.nil {α : Type} (L : List Heap) (e : En α) : Rdl L e none 0 [] := λ _ _ _ => ⟨rfl, rfl⟩
theorem Rdl.lit {α : Type} {L : List Heap} {e : En α} {b l : Nat} {o : Obj} {u : Obj -> List Heap} [f : Find L b o u] {xs : List α} {t : TypeId} {z : Nat × Nat} (ho : o = .cells (e.F xs).toArray t z) (hl : l = xs.length) : Rdl L e (some ⟨b, 0, none⟩) l xs := λ G h hO => by
 refine ⟨hl, λ i v hv => ?_⟩
 rw [add_mk, Nat.zero_add]
 refine hcell_own hO f ?_
 rw [ho]; simp only [ocell, Option.isSome_none, Bool.false_eq_true, if_false, List.getElem?_toArray]; exact hv
theorem Rdl.part {α : Type} {e : En α} (ok : e.Ok) {L : List Heap} {b o : Nat} {l : Nat} {xs : List α} (hr : Rdl L e (some ⟨b, o, none⟩) l xs) (i n : Nat) (hl : i + n <= l) : Rdl L e (some ⟨b, o + i * e.m, none⟩) n ((xs.drop i).take n) := λ G h hO => by
 have := (hr G h hO).part ok rfl i n hl
 rw [add_mk] at this; exact this
theorem Rdl.len {α : Type} {L : List Heap} {e : En α} {p : Option Addr} {l : Nat} {xs : List α} (hr : Rdl L e p l xs) {G h : Heap} (hO : Own G h L) : l = xs.length := (hr G h hO).1
theorem Rdl.at {α : Type} {e : En α} (ok : e.Ok) {L : List Heap} {p : Option Addr} {l : Nat} {xs : List α} (hr : Rdl L e p l xs) {G h : Heap} (hO : Own G h L) {i : Int} (h0 : 0 <= i) (h1 : i < (l : Int)) : ∃ x, xs[i.toNat]? = some x /\ ∀ K, (∀ a, p = some a -> (∀ j v, (e.E x)[j]? = some v -> hcell (rd G h) ((a.add (i.toNat * e.m)).add j) = some v) -> K a) -> NN p K := by
 have hs := hr G h hO
 have hl := hs.1
 have hi : i.toNat < xs.length := by omega
 refine ⟨xs[i.toNat], by simp [hi], λ K hK => ?_⟩
 cases p with
 | none => have := hs.2; simp only at this; omega
 | some a =>
  refine hK a rfl λ j v hj => ?_
  have hjm : j < e.m := by rw [<- ok.hm xs[i.toNat]]; exact (List.getElem?_eq_some_iff.1 hj).1
  have := hs.2 (i.toNat * e.m + j) v (by rw [En.F_get ok (i := i.toNat) (x := xs[i.toNat]) (by simp [hi]) hjm]; exact hj)
  have hadd : (a.add (i.toNat * e.m)).add j = a.add (i.toNat * e.m + j) := by
   unfold Addr.add
   by_cases h1 : i.toNat * e.m = 0
   ·simp [h1]
   ·by_cases h2 : j = 0
    ·simp [h1, h2]
    ·simp [h1, h2, Nat.add_assoc]
  rw [hadd]; exact this
theorem LdI.i {G h : Heap} {k : IntKind} {a : Addr} {K : Int -> Prop} {n : Int} (hc : hcell (rd G h) a = some (.int k n)) (hk : K n) : LdI G h k a K := ⟨n, hc, hk⟩
theorem LdB.i {G h : Heap} {a : Addr} {K : Bool -> Prop} {n : Bool} (hc : hcell (rd G h) a = some (.bool n)) (hk : K n) : LdB G h a K := ⟨n, hc, hk⟩
theorem LdS.i {G h : Heap} {a : Addr} {K : ByteArray -> Prop} {n : ByteArray} (hc : hcell (rd G h) a = some (.string n)) (hk : K n) : LdS G h a K := ⟨n, hc, hk⟩
theorem LdP.i {G h : Heap} {a : Addr} {K : Option Addr -> Prop} {n : Option Addr} (hc : hcell (rd G h) a = some (.pointer n)) (hk : K n) : LdP G h a K := ⟨n, hc, hk⟩
theorem LdSl.i {G h : Heap} {a : Addr} {K : Option Addr -> Nat -> Nat -> Prop} {p : Option Addr} {l c : Nat} (hc : hcell (rd G h) a = some (.slice p l c)) (hk : K p l c) : LdSl G h a K := ⟨p, l, c, hc, hk⟩
theorem LdM.i {G h : Heap} {a : Addr} {K : Option Nat -> Prop} {n : Option Nat} (hc : hcell (rd G h) a = some (.map n)) (hk : K n) : LdM G h a K := ⟨n, hc, hk⟩
theorem LdV.i {G h : Heap} {a : Addr} {K : Value -> Prop} {n : Value} (hc : hcell (rd G h) a = some n) (hk : K n) : LdV G h a K := ⟨n, hc, hk⟩
theorem glob_cell {G h : Heap} {L : List Heap} (hO : Own G h L) {a : Addr} {o : Obj} (hG : G a.block = some o) {v : Value} (hc : ocell o a = some v) : hcell (rd G h) a = some v := by
 unfold hcell rd
 rw [(hO.g a.block).resolve_right (by simp [hG]), hG]; exact hc
theorem Own.drop1 {G h a : Heap} {L : List Heap} (hO : Own G h (a :: L)) : Own G h L := hO.tail
theorem Own.addEmp {G h a : Heap} {L : List Heap} (hO : Own G h (a :: L)) : Own G h (a :: emp :: L) :=
 ⟨hO.g, by
  obtain ⟨h1, h2⟩ := List.pairwise_cons.1 hO.pw
  refine List.pairwise_cons.2 ⟨λ c hc => ?_, List.pairwise_cons.2 ⟨λ c _ n => .inl rfl, h2⟩⟩
  rcases List.mem_cons.1 hc with rfl | hc
  ·exact λ n => .inr rfl
  ·exact h1 c hc, λ c hc => by
  rcases List.mem_cons.1 hc with rfl | hc
  ·exact hO.sub _ (by simp)
  ·rcases List.mem_cons.1 hc with rfl | hc
   ·intro n o ho; cases ho
   ·exact hO.sub c (by simp [hc])⟩
theorem Own.open2 {G h a c : Heap} {cs L : List Heap} (hO : Own G h (a :: c :: L)) (hj : JoinOf c cs) : Own G h (a :: (cs ++ L)) := by
 have h1 := (hO.perm (List.Perm.swap _ _ _)).openJ hj
 exact h1.perm List.perm_middle.symm
theorem Own.addEmp0 {G h : Heap} {L : List Heap} (hO : Own G h L) : Own G h (emp :: L) :=
 ⟨hO.g, List.pairwise_cons.2 ⟨λ c _ n => .inl rfl, hO.pw⟩, λ c hc => by
  rcases List.mem_cons.1 hc with rfl | hc
  ·intro n o ho; cases ho
  ·exact hO.sub c hc⟩
theorem append1 {P : Program} {G h : Heap} {L R : List Heap} {α : Type} {e : En α} {tS : TypeId} (T : SlT P tS e) {p : Option Addr} {l c r : Nat} {xs : List α} {y : α} {cs : Array Value} {t' : TypeId} {z : Nat × Nat} {pc : Heap}
  (hO : Own G h (single r (.cells cs t' z) :: L)) [t : Take L pc R] (hs : Sli e p l c xs pc) (hcs : cs = (e.E y).toArray) (hsm : l + 1 <= 4294967296)
  {K : Value -> Heap -> Prop} {Kp : PK} (hk : ∀ h' p' c' pc', Sli e p' (l + 1) c' (xs ++ [y]) pc' -> Own G h' (pc' :: R) -> K (.slice p' (l + 1) c') h') :
  slV P G (Builtin.append_ #[tS, tS] tS #[.slice p l c, .slice (some ⟨r, 0, none⟩) 1 1]) K Kp h := by
 refine append_go T T.ud (R := single r (.cells cs t' z) :: R) (ys := [y]) hO ((List.Perm.swap _ _ _).trans (t.perm.cons _)) hs (Rdl.lit (t := t') (z := z) (by rw [hcs]; simp [En.F]) rfl G h hO) hsm λ h' p' c' pc' h1 h2 => hk h' p' c' pc' h1 h2.drop2
noncomputable def cnt1 (a b : Heap) : Nat := open Classical in if b = a then 1 else 0
noncomputable def cnt (a : Heap) : List Heap -> Nat
 | [] => 0
 | b :: l => cnt a l + cnt1 a b
theorem cnt_nil (a : Heap) : cnt a [] = 0 := rfl
theorem cnt_cons (a b : Heap) (l : List Heap) : cnt a (b :: l) = cnt a l + cnt1 a b := rfl
theorem cnt_app (a : Heap) (l m : List Heap) : cnt a (l ++ m) = cnt a l + cnt a m := by
 induction l with
 | nil => simp [cnt]
 | cons b l ih => rw [List.cons_append, cnt_cons, ih, cnt_cons a b l]; omega
theorem cnt_count (a : Heap) (l : List Heap) : cnt a l = (open Classical in List.count a l) := by
 classical
 induction l with
 | nil => rfl
 | cons b l ih => simp only [cnt, cnt1, List.count_cons, ih, beq_iff_eq]
theorem perm_cnt {l m : List Heap} (h : ∀ a, cnt a l = cnt a m) : l.Perm m := by
 classical
 rw [List.perm_iff_count]
 intro a
 have := h a
 rw [cnt_count, cnt_count] at this
 exact this
theorem cnt_perm {l m : List Heap} (h : l.Perm m) (a : Heap) : cnt a l = cnt a m := by
 classical
 rw [cnt_count, cnt_count]
 exact List.perm_iff_count.1 h a
end Go.Sl
namespace Go.Sl
open Go
theorem sl_getObj {P : Program} {G : Heap} {β : Type} {r : Nat} {o : Obj} {f : Obj -> Sem β} {K : β -> Heap -> Prop} {Kp : Value -> Heap -> Prop} {h : Heap} (hr : rd G h r = some o) (ho : ocells o = false) (hs : sl P G (f o) K Kp h) :
  sl P G (getObj r >>= f) K Kp h := ⟨o, hr, ho, hs⟩
theorem sl_setObj {P : Program} {G : Heap} {β : Type} {r : Nat} {o o' : Obj} {f : Unit -> Sem β} {K : β -> Heap -> Prop} {Kp : Value -> Heap -> Prop} {h : Heap} (hr : h r = some o') (ho : ocells o' = false) (hs : sl P G (f ()) K Kp (hupd h r o)) :
  sl P G (setObj r o >>= f) K Kp h := ⟨o', hr, ho, hs⟩
structure KV (κ β : Type) where
 k : κ -> Value
 v : β -> Value
 z : β
structure MapT (P : Program) (t : TypeId) {κ β : Type} [DecidableEq κ] (e : KV κ β) where
 kt : TypeId
 et : TypeId
 kd : TypeDesc
 ud : P.underlying t = some (.map kt et)
 kud : P.underlying kt = some kd
 zer : pr P (zeroValue et) = some (e.v e.z)
 ck : ∀ b x, pr P (Instr.checkKey b 10000 kt (e.k x)) = some ()
 eq : ∀ x y, pr P (Op.equal kt (e.k x) (e.k y)) = some (decide (x = y))
 now : (∀ x y, Instr.sameNow kd (e.k x) (e.k y) = some (decide (x = y))) ∨ (∀ x y, Instr.sameNow kd (e.k x) (e.k y) = none)
 bits : ∀ x, Instr.sameBits 10000 (e.k x) (e.k x) = true
abbrev Ents (κ β : Type) := List (κ × β × Nat)
def entV {κ β : Type} (e : KV κ β) (x : κ × β × Nat) : MapEntry := ⟨e.k x.1, e.v x.2.1, x.2.2⟩
def mpO {κ β : Type} (e : KV κ β) (l : Ents κ β) (clock : Nat) : Obj := .map (l.map (entV e)).toArray clock
def fnd {κ β : Type} [DecidableEq κ] (x : κ) : Ents κ β -> Nat -> Option (Nat × β)
 | [], _ => none
 | y :: l, i => if x = y.1 then some (i, y.2.1) else fnd x l (i + 1)
def mget {κ β : Type} [DecidableEq κ] (l : Ents κ β) (x : κ) : Option β := (fnd x l 0).map (·.2)
def mputL {κ β : Type} [DecidableEq κ] (l : Ents κ β) (x : κ) (v : β) (clock : Nat) : Ents κ β := match fnd x l 0 with
 | some (i, _) => l.modify i λ y => (x, v, y.2.2)
 | none => l ++ [(x, v, clock)]
def mdelL {κ β : Type} [DecidableEq κ] (l : Ents κ β) (x : κ) : Ents κ β := match fnd x l 0 with
 | some (i, _) => l.eraseIdx i
 | none => l
theorem findAsking_pr {P : Program} {t : TypeId} {κ β : Type} [DecidableEq κ] {e : KV κ β} (T : MapT P t e) (x : κ) (l : Ents κ β) : ∀ i, pr P (Instr.findAsking T.kt (e.k x) (l.map (entV e)) i) = some ((fnd x l i).map λ r => (r.1, e.v r.2)) := by
 induction l with
 | nil => intro i; rfl
 | cons y l ih =>
  intro i
  simp only [List.map_cons, Instr.findAsking, pr_bind, entV, T.eq, Option.bind_some, fnd]
  by_cases hx : x = y.1
  ·rw [if_pos hx]; simp [hx, pr_pure]
  ·rw [if_neg hx]; simp only [hx, decide_false, Bool.false_eq_true, if_false]; exact ih _
theorem findNow_some {P : Program} {t : TypeId} {κ β : Type} [DecidableEq κ] {e : KV κ β} (T : MapT P t e) (hn : ∀ x y, Instr.sameNow T.kd (e.k x) (e.k y) = some (decide (x = y))) (x : κ) (l : Ents κ β) : ∀ i, Instr.findNow T.kd (e.k x) (l.map (entV e)) i = some ((fnd x l i).map λ r => (r.1, e.v r.2)) := by
 induction l with
 | nil => intro i; rfl
 | cons y l ih =>
  intro i
  simp only [List.map_cons, Instr.findNow, entV, hn, fnd]
  by_cases hx : x = y.1
  ·simp only [hx, decide_true, if_true]; rfl
  ·simp only [hx, decide_false, if_false]; exact ih _
theorem findKey_pr {P : Program} {t : TypeId} {κ β : Type} [DecidableEq κ] {e : KV κ β} (T : MapT P t e) (x : κ) (l : Ents κ β) : pr P (Instr.findKey T.kt (e.k x) (l.map (entV e))) = some ((fnd x l 0).map λ r => (r.1, e.v r.2)) := by
 unfold Instr.findKey
 rw [pr_bind, pr_underlying T.kud, Option.bind_some]
 rcases T.now with hn | hn
 ·rw [findNow_some T hn]; rfl
 ·cases l with
  | nil => rfl
  | cons y l =>
   have : Instr.findNow T.kd (e.k x) ((y :: l).map (entV e)) 0 = none := by simp only [List.map_cons, Instr.findNow, entV, hn]
   rw [this]
   exact findAsking_pr T x (y :: l) 0
theorem look2_go {P : Program} {G h : Heap} {t : TypeId} {κ β : Type} [DecidableEq κ] {e : KV κ β} (T : MapT P t e) {r : Nat} {l : Ents κ β} {clock : Nat} (hr : rd G h r = some (mpO e l clock)) (x : κ)
  {K : Value -> Heap -> Prop} {Kp : PK} (hk : K (.tuple #[e.v ((mget l x).getD e.z), .bool (mget l x).isSome]) h) : slV P G (Instr.lookup t (.map (some r)) (e.k x) true) K Kp h := by
 unfold slV slN Instr.lookup
 rw [bind_assoc']
 refine sl_bindPr (pr_underlying T.ud) ?_
 simp only [bind_assoc', pure_bind']
 refine sl_getObj hr rfl ?_
 simp only [mpO, bind_assoc', pure_bind']
 refine sl_bindPr (T.ck _ x) ?_
 refine sl_bindPr (findKey_pr T x l) ?_
 unfold mget at hk
 cases hf : fnd x l 0 with
 | some p => rw [hf] at hk; exact hk
 | none =>
  rw [hf] at hk
  simp only [Option.map_none, bind_assoc', pure_bind']
  exact sl_bindPr T.zer hk
theorem look1_go {P : Program} {G h : Heap} {t : TypeId} {κ β : Type} [DecidableEq κ] {e : KV κ β} (T : MapT P t e) {r : Nat} {l : Ents κ β} {clock : Nat} (hr : rd G h r = some (mpO e l clock)) (x : κ)
  {K : Value -> Heap -> Prop} {Kp : PK} (hk : K (e.v ((mget l x).getD e.z)) h) : slV P G (Instr.lookup t (.map (some r)) (e.k x) false) K Kp h := by
 unfold slV slN Instr.lookup
 rw [bind_assoc']
 refine sl_bindPr (pr_underlying T.ud) ?_
 simp only [bind_assoc', pure_bind']
 refine sl_getObj hr rfl ?_
 simp only [mpO, bind_assoc', pure_bind']
 refine sl_bindPr (T.ck _ x) ?_
 refine sl_bindPr (findKey_pr T x l) ?_
 unfold mget at hk
 cases hf : fnd x l 0 with
 | some p => rw [hf] at hk; exact hk
 | none =>
  rw [hf] at hk
  simp only [Option.map_none, bind_assoc', pure_bind']
  exact sl_bindPr T.zer hk
theorem fnd_get {κ β : Type} [DecidableEq κ] {x : κ} {l : Ents κ β} : ∀ {i j : Nat} {v : β}, fnd x l i = some (j, v) -> ∃ k b, j = i + k /\ l[k]? = some (x, v, b) := by
 induction l with
 | nil => intro i j v h; cases h
 | cons y l ih =>
  intro i j v h
  unfold fnd at h
  split at h
  ·rename_i hx
   cases h
   exact ⟨0, y.2.2, rfl, by rw [hx]; rfl⟩
  ·obtain ⟨k, b, h1, h2⟩ := ih h
   exact ⟨k + 1, b, by omega, by simpa using h2⟩
theorem keyStays_pr {P : Program} {a : Value} (h : Instr.sameBits 10000 a a = true) : pr P (Instr.keyThatStays a a) = some a := by
 unfold Instr.keyThatStays; rw [if_pos h]; rfl
theorem mput_goC {P : Program} {G h : Heap} {L : List Heap} {t : TypeId} {κ β : Type} [DecidableEq κ] {e : KV κ β} (T : MapT P t e) {r : Nat} {l : Ents κ β} {clock : Nat} {u : Obj -> List Heap} (hO : Own G h L) [f : Find L r (mpO e l clock) u] (x : κ) (v : β)
  {K : Value -> Heap -> Prop} {Kp : PK} (hk : ∀ h' clock', clock' = (if (fnd x l 0).isSome then clock else clock + 1) -> Own G h' (u (mpO e (mputL l x v clock) clock')) -> K undef h') : slU P G (Instr.mapUpdate t (.map (some r)) (e.k x) (e.v v)) K Kp h := by
 unfold slU slN Instr.mapUpdate
 rw [bind_assoc']
 refine sl_bindPr (pr_underlying T.ud) ?_
 simp only [bind_assoc', pure_bind']
 refine sl_getObj (hO.rd f) rfl ?_
 simp only [mpO, bind_assoc', pure_bind']
 refine sl_bindPr (T.ck _ x) ?_
 refine sl_bindPr (findKey_pr T x l) ?_
 unfold mputL at hk
 cases hf : fnd x l 0 with
 | some p =>
  obtain ⟨i, w⟩ := p
  rw [hf] at hk
  obtain ⟨k, b, h1, h2⟩ := fnd_get hf
  have h1 : i = k := by omega
  subst h1
  simp only [Option.map_some, bind_assoc', pure_bind']
  have hk2 : ((((l.map (entV e)).toArray[i]?).map (·.key)).getD (e.k x)) = e.k x := by
   simp [h2, entV]
  rw [hk2]
  refine sl_bindPr (keyStays_pr (T.bits x)) ?_
  refine sl_setObj (hO.find f) rfl ?_
  have he : ((l.map (entV e)).toArray.modify i λ y => { y with key := e.k x, val := e.v v }) = ((l.modify i λ y => (x, v, y.2.2)).map (entV e)).toArray := by
   apply Array.ext'
   simp only [List.modify_toArray]
   apply List.ext_getElem?
   intro j
   by_cases hj : i = j
   ·subst hj; simp [List.getElem?_modify, h2, entV]
   ·simp [List.getElem?_modify, hj]
  rw [he]
  exact hk _ clock (by simp) (hO.set f _)
 | none =>
  rw [hf] at hk
  simp only [Option.map_none, bind_assoc', pure_bind']
  refine sl_setObj (hO.find f) rfl ?_
  have he : ((l.map (entV e)).toArray.push { key := e.k x, val := e.v v, born := clock }) = ((l ++ [(x, v, clock)]).map (entV e)).toArray := by
   apply Array.ext'; simp [entV]
  rw [he]
  exact hk _ (clock + 1) (by simp) (hO.set f _)
theorem mput_go {P : Program} {G h : Heap} {L : List Heap} {t : TypeId} {κ β : Type} [DecidableEq κ] {e : KV κ β} (T : MapT P t e) {r : Nat} {l : Ents κ β} {clock : Nat} {u : Obj -> List Heap} (hO : Own G h L) [f : Find L r (mpO e l clock) u] (x : κ) (v : β)
  {K : Value -> Heap -> Prop} {Kp : PK} (hk : ∀ h' clock', Own G h' (u (mpO e (mputL l x v clock) clock')) -> K undef h') : slU P G (Instr.mapUpdate t (.map (some r)) (e.k x) (e.v v)) K Kp h := mput_goC T hO x v λ h' c' _ hO => hk h' c' hO
theorem map_erase' {α β : Type} (f : α -> β) (l : List α) : ∀ i, (l.map f).eraseIdx i = (l.eraseIdx i).map f := by
 induction l with
 | nil => intro i; rfl
 | cons x l ih => intro i; cases i with
  | zero => rfl
  | succ i => simp [ih]
theorem mdel_go {P : Program} {G h : Heap} {L : List Heap} {t : TypeId} {κ β : Type} [DecidableEq κ] {e : KV κ β} (T : MapT P t e) {r ty t2 : Nat} {l : Ents κ β} {clock : Nat} {u : Obj -> List Heap} (hO : Own G h L) [f : Find L r (mpO e l clock) u] (x : κ)
  {K : Value -> Heap -> Prop} {Kp : PK} (hk : ∀ h', Own G h' (u (mpO e (mdelL l x) clock)) -> K (.tuple #[]) h') : slV P G (Builtin.delete_ #[t, t2] ty #[.map (some r), e.k x]) K Kp h := by
 unfold slV slN Builtin.delete_
 simp only [List.getElem?_toArray, List.getElem?_cons_zero, List.getElem?_cons_succ]
 rw [bind_assoc']
 refine sl_bindPr (pr_underlying T.ud) ?_
 simp only [bind_assoc', pure_bind']
 refine sl_getObj (hO.rd f) rfl ?_
 simp only [mpO, bind_assoc', pure_bind']
 refine sl_bindPr (T.ck _ x) ?_
 refine sl_bindPr (findKey_pr T x l) ?_
 unfold mdelL at hk
 cases hf : fnd x l 0 with
 | some p =>
  obtain ⟨i, w⟩ := p
  rw [hf] at hk
  simp only [Option.map_some, bind_assoc', pure_bind']
  refine sl_setObj (hO.find f) rfl ?_
  have he : ((l.map (entV e)).toArray.eraseIdxIfInBounds i) = ((l.eraseIdx i).map (entV e)).toArray := by
   apply Array.ext'
   simp only [List.eraseIdxIfInBounds_toArray, map_erase']
  rw [he]
  exact hk _ (hO.set f _)
 | none =>
  rw [hf] at hk
  simp only [Option.map_none, bind_assoc', pure_bind']
  refine sl_setObj (hO.find f) rfl ?_
  exact hk _ (hO.set f _)
theorem mclear_go {P : Program} {G h : Heap} {L : List Heap} {t : TypeId} {κ β : Type} [DecidableEq κ] {e : KV κ β} (T : MapT P t e) {r ty : Nat} {l : Ents κ β} {clock : Nat} {u : Obj -> List Heap} (hO : Own G h L) [f : Find L r (mpO e l clock) u]
  {K : Value -> Heap -> Prop} {Kp : PK} (hk : ∀ h', Own G h' (u (mpO e [] clock)) -> K (.tuple #[]) h') : slV P G (Builtin.clear_ #[t] ty #[.map (some r)]) K Kp h := by
 unfold slV slN Builtin.clear_
 simp only [List.getElem?_toArray, List.getElem?_cons_zero]
 rw [bind_assoc']
 refine sl_bindPr (pr_underlying T.ud) ?_
 simp only [bind_assoc', pure_bind']
 refine sl_getObj (hO.rd f) rfl ?_
 simp only [mpO, bind_assoc', pure_bind']
 refine sl_setObj (hO.find f) rfl ?_
 exact hk _ (hO.set f _)
end Go.Sl
namespace Go.Sl
open Go
inductive Sof {α : Type} (e : En α) : Option Addr -> Nat -> Nat -> List α -> Heap -> Prop
 | no : Sof e none 0 0 [] emp
 | bk {b c : Nat} {xs : List α} (ys js : List α) (z : Nat × Nat) : zok z ((ys ++ xs ++ js).length * e.m) -> xs.length <= c -> c <= xs.length + js.length -> Sof e (some ⟨b, ys.length * e.m, none⟩) xs.length c xs (single b (blk e z (ys ++ xs ++ js)))
theorem Sli.sof {α : Type} {e : En α} {p : Option Addr} {l c : Nat} {xs : List α} {pc : Heap} (h : Sli e p l c xs pc) : Sof e p l c xs pc := by
 cases h with
 | no => exact .no
 | bk js z hz =>
  have := Sof.bk (e := e) (xs := xs) (c := xs.length + js.length) (b := by assumption) [] js z (by simpa using hz) (by omega) (by omega)
  simpa using this
theorem Sof.len {α : Type} {e : En α} {p : Option Addr} {l c : Nat} {xs : List α} {pc : Heap} (h : Sof e p l c xs pc) : l = xs.length := by cases h <;> rfl
theorem Sof.cap {α : Type} {e : En α} {p : Option Addr} {l c : Nat} {xs : List α} {pc : Heap} (h : Sof e p l c xs pc) : l <= c := by
 cases h with
 | no => omega
 | bk ys js z hz h1 h2 => exact h1
theorem Sof.rd {α : Type} {e : En α} (ok : e.Ok) {p : Option Addr} {l c : Nat} {xs : List α} {pc : Heap} (hs : Sof e p l c xs pc) {G h : Heap} {L : List Heap} (hO : Own G h L) (hc : pc ∈ L) : RdS G h e p l xs := by
 cases hs with
 | no => exact ⟨rfl, rfl⟩
 | bk ys js z hz h1 h2 =>
  refine ⟨rfl, λ i v hv => ?_⟩
  rw [add_mk]
  unfold hcell
  rw [own_piece hO hc single_self]
  have hi : i < (e.F xs).length := (List.getElem?_eq_some_iff.1 hv).1
  have hy : (e.F ys).length = ys.length * e.m := En.F_len ok ys
  simp only [Option.bind_some, ocell, blk, Option.isSome_none, Bool.false_eq_true, if_false, List.getElem?_toArray, En.F_app]
  rw [List.append_assoc, List.getElem?_append_right (by omega), hy, Nat.add_sub_cancel_left, List.getElem?_append_left hi]; exact hv
theorem Sof.rdl {α : Type} {e : En α} (ok : e.Ok) {p : Option Addr} {l c : Nat} {xs : List α} {pc : Heap} (hs : Sof e p l c xs pc) {L : List Heap} (hc : pc ∈ L) : Rdl L e p l xs := λ _ _ hO => hs.rd ok hO hc
theorem Sof.tail {α : Type} {e : En α} {p : Option Addr} {l c : Nat} {xs : List α} {pc : Heap} (hs : Sof e p l c xs pc) (n : Nat) (hn : n <= l) : Sof e (subA p n c e.m) (l - n) (c - n) (xs.drop n) pc := by
 cases hs with
 | no =>
  have : n = 0 := by omega
  subst this
  exact .no
 | bk ys js z hz h1 h2 =>
  unfold subA
  by_cases hc : c = n
  ·have hx : xs.length = n := by omega
   subst hx; subst hc
   rw [if_pos rfl, Nat.sub_self, List.drop_length]
   have := Sof.bk (e := e) (xs := []) (c := 0) (b := by assumption) ys (xs ++ js) z (by simpa using hz) (by simp) (by simp)
   simpa using this
  ·rw [if_neg hc]
   have := Sof.bk (e := e) (xs := xs.drop n) (c := c - n) (b := by assumption) (ys ++ xs.take n) js z (by simpa using hz) (by simp; omega) (by simp; omega)
   simp only [List.length_append, List.length_take, List.length_drop] at this
   rw [Nat.min_eq_left hn, Nat.add_mul] at this
   rw [List.append_assoc ys, List.take_append_drop] at this
   rw [Option.map_some, add_mk]; exact this
theorem append_goF {P : Program} {G h : Heap} {L R : List Heap} {α : Type} {e : En α} {tS tX : TypeId} (T : SlT P tS e) {fX : TypeId} (hX : P.underlying tX = some (.slice fX)) {p p2 : Option Addr} {l c l2 c2 : Nat} {xs ys : List α} {pc : Heap}
  (hO : Own G h L) (t : (pc :: R).Perm L) (hs : Sof e p l c xs pc) (hr : RdS G h e p2 l2 ys) (hsm : l + l2 <= 4294967296)
  {K : Value -> Heap -> Prop} {Kp : PK} (hk : ∀ h' p' c' pc', Sof e p' (l + l2) c' (xs ++ ys) pc' -> Own G h' (pc' :: R) -> K (.slice p' (l + l2) c') h') :
  slV P G (Builtin.append_ #[tS, tX] tS #[.slice p l c, .slice p2 l2 c2]) K Kp h := by
 have hO' := hO.perm t
 obtain ⟨i, hi, hsz, hby, zv, hz, hzc⟩ := T.info
 unfold slV slN Builtin.append_
 simp only [List.getElem?_toArray, List.getElem?_cons_zero, List.getElem?_cons_succ]
 rw [bind_assoc']
 refine sl_bindPr (pr_underlying T.ud) ?_
 dsimp only
 rw [bind_assoc']
 refine sl_bindPr (pr_sizeOf hi) ?_
 rw [bind_assoc']
 simp only [pure_bind', bind_assoc' (underlying tX)]
 refine sl_bindPr (pr_underlying hX) ?_
 simp only [Bool.false_eq_true, if_false, Builtin.lenOf, pure_bind', Bool.not_false, if_true, false_or]
 rw [hsz]
 have hl := hs.len
 have hl2 := hr.1
 by_cases hle : l + l2 <= c
 ·rw [if_pos hle, bind_assoc']
  refine sl_firstCells hr T.ok ?_
  cases hs with
  | no =>
   have h0 : l2 = 0 := by omega
   have hy : ys = [] := List.length_eq_zero_iff.1 (by omega)
   subst hy
   subst h0
   exact hk h none 0 emp .no hO'
  | bk ws js z hz' hc1 hc2 =>
   rename_i b
   dsimp only
   simp only [bind_assoc', pure_bind', add_mk]
   have hfl : (e.F (ws ++ xs ++ js)).length = (ws.length + xs.length + js.length) * e.m := by rw [En.F_len T.ok]; simp [Nat.add_assoc]
   have hyl : (e.F ys).length = ys.length * e.m := En.F_len T.ok ys
   have hmul : ws.length * e.m + xs.length * e.m + ys.length * e.m <= (ws.length + xs.length + js.length) * e.m := by rw [<- Nat.add_mul, <- Nat.add_mul]; exact Nat.mul_le_mul_right _ (by omega)
   have hb := hO'.find (Find.here b (blk e z (ws ++ xs ++ js)) R)
   refine sl_storeCells _ _ 0 ?_
   refine stL_blk (a := ⟨b, ws.length * e.m + xs.length * e.m, none⟩) rfl (cs := e.F (ws ++ xs ++ js)) (t := e.t) (z := z) _ hb (λ i hi => hz' i (by rw [hfl] at hi; simpa [Nat.add_assoc] using hi)) (λ v hv => En.F_plain T.ok ys v hv) (by simp only [hfl]; rw [hyl]; omega) ?_
   have hw : wr (e.F (ws ++ xs ++ js)) (ws.length * e.m + xs.length * e.m) (e.F ys) = e.F (ws ++ (xs ++ ys) ++ js.drop ys.length) := by
    have h1 : (e.F (ws ++ xs)).length = ws.length * e.m + xs.length * e.m := by rw [En.F_len T.ok, List.length_append, Nat.add_mul]
    unfold wr
    rw [En.F_app, <- h1, List.take_left, List.drop_append, <- List.append_assoc ws, En.F_app _ (ws ++ xs ++ ys), En.F_app _ (ws ++ xs) ys]
    congr 1
    rw [show (e.F (ws ++ xs)).length + (e.F ys).length - (e.F (ws ++ xs)).length = (e.F ys).length by omega, List.drop_eq_nil_of_le (by omega), List.nil_append, hyl]
    have hjs : js = js.take ys.length ++ js.drop ys.length := (List.take_append_drop _ _).symm
    have h3 : (e.F (js.take ys.length)).length = ys.length * e.m := by rw [En.F_len T.ok]; simp; rw [Nat.min_eq_left (by omega)]
    conv => lhs; rw [hjs, En.F_app, <- h3, List.drop_left]
   have hset := hO'.set (Find.here b (blk e z (ws ++ xs ++ js)) R) (blk e z (ws ++ (xs ++ ys) ++ js.drop ys.length))
   show K _ _
   simp only [Nat.add_zero, hw]
   refine hk _ _ _ _ ?_ hset
   have := Sof.bk (e := e) (b := b) (xs := xs ++ ys) (c := c) ws (js.drop ys.length) z (zok_mono hz' (Nat.mul_le_mul_right _ (by simp; omega))) (by simp; omega) (by simp; omega)
   simp only [List.length_append] at this
   rw [hl2]; exact this
 ·rw [if_neg hle, bind_assoc']
  refine sl_bindPr (pr_typeInfo hi) ?_
  have hmax : IntKind.i64.max = 9223372036854775807 := by decide
  rw [if_neg (by rw [hmax]; omega), bind_assoc']
  refine sl_bindPr (pr_typeInfo hi) ?_
  have hcap := nextcap_le (need := l + l2) (cap := c) (by omega)
  have : Builtin.nextslicecap (l + l2) c * i.bytes <= 2 ^ 48 := Nat.le_trans (Nat.mul_le_mul hcap hby) (by omega)
  rw [if_neg (by omega), bind_assoc']
  refine sl_choose (.inr rfl) λ tt => ?_
  generalize hn : (Question.appendCap (l + l2) c e.t).cut tt = nc
  have hnc : l + l2 <= nc := by rw [<- hn]; simp only [Question.cut]; omega
  rw [bind_assoc']
  refine sl_bindPr (pr_typeInfo hi) ?_
  rw [bind_assoc']
  refine sl_askRoom ?_
  rw [bind_assoc']
  refine sl_firstCells (hs.rd T.ok hO' (by simp)) T.ok ?_
  rw [bind_assoc']
  refine sl_firstCells hr T.ok ?_
  rw [bind_assoc']
  refine sl_bindPr (pr_zeroValue hi hz) ?_
  rw [hzc, repeat_F T.ok]
  unfold newRow
  simp only [bind_assoc', pure_bind']
  refine sl_new λ r h1 h2 => ?_
  have hnew := (hO'.new h1 h2 (blk e (0, 0) (xs ++ ys ++ List.replicate (nc - (l + l2)) e.z))).drop2
  have hx : (e.F xs).toArray ++ (e.F ys).toArray ++ (e.F (List.replicate (nc - (l + l2)) e.z)).toArray = (e.F (xs ++ ys ++ List.replicate (nc - (l + l2)) e.z)).toArray := by
   apply Array.ext'; simp [En.F_app]
  rw [hx]
  show K _ _
  have := Sli.bk (e := e) (b := r) (xs := xs ++ ys) (List.replicate (nc - (l + l2)) e.z) (0, 0) (zok_0 _)
  simp only [List.length_append, List.length_replicate] at this
  rw [<- hl, <- hl2, show l + l2 + (nc - (l + l2)) = nc by omega] at this
  exact hk _ _ _ _ this.sof hnew
theorem append1F {P : Program} {G h : Heap} {L R : List Heap} {α : Type} {e : En α} {tS : TypeId} (T : SlT P tS e) {p : Option Addr} {l c r : Nat} {xs : List α} {y : α} {cs : Array Value} {t' : TypeId} {z : Nat × Nat} {pc : Heap}
  (hO : Own G h (single r (.cells cs t' z) :: L)) [t : Take L pc R] (hs : Sof e p l c xs pc) (hcs : cs = (e.E y).toArray) (hsm : l + 1 <= 4294967296)
  {K : Value -> Heap -> Prop} {Kp : PK} (hk : ∀ h' p' c' pc', Sof e p' (l + 1) c' (xs ++ [y]) pc' -> Own G h' (pc' :: R) -> K (.slice p' (l + 1) c') h') :
  slV P G (Builtin.append_ #[tS, tS] tS #[.slice p l c, .slice (some ⟨r, 0, none⟩) 1 1]) K Kp h := by
 refine append_goF T T.ud (R := single r (.cells cs t' z) :: R) (ys := [y]) hO ((List.Perm.swap _ _ _).trans (t.perm.cons _)) hs (Rdl.lit (t := t') (z := z) (by rw [hcs]; simp [En.F]) rfl G h hO) hsm λ h' p' c' pc' h1 h2 => hk h' p' c' pc' h1 h2.drop2
end Go.Sl
namespace Go.Sl
open Go
theorem subp_ex : ∀ (M L : List Heap), (∀ a, cnt a M <= cnt a L) -> ∃ N, (M ++ N).Perm L
 | [], L, _ => ⟨L, .refl _⟩
 | m :: M, L, h => by
  classical
  have hm : m ∈ L := by
   have := h m
   rw [cnt_cons, cnt_count m L] at this
   simp only [cnt1, if_true] at this
   exact List.count_pos_iff.1 (by omega)
  have hp := List.perm_cons_erase hm
  obtain ⟨N, hN⟩ := subp_ex M (L.erase m) λ a => by
   have h1 := h a
   have h2 := cnt_perm hp a
   rw [cnt_cons] at h1 h2
   omega
  exact ⟨N, (hN.cons m).trans hp.symm⟩
theorem Own.sp {G h : Heap} {L M : List Heap} (hO : Own G h L) (hc : ∀ a, cnt a M <= cnt a L) : Own G h M := by
 obtain ⟨N, hN⟩ := subp_ex M L hc
 exact (hO.perm hN).mem (List.sublist_append_left M N)
theorem Sli.rdO {α : Type} {e : En α} {p : Option Addr} {l c : Nat} {xs : List α} {pc : Heap} (hs : Sli e p l c xs pc) {L : List Heap} {G h : Heap} (hO : Own G h L) (hc : pc ∈ L) : Rdl L e p l xs := hs.rdl hc
theorem Sof.rdO {α : Type} {e : En α} (ok : e.Ok) {p : Option Addr} {l c : Nat} {xs : List α} {pc : Heap} (hs : Sof e p l c xs pc) {L : List Heap} {G h : Heap} (hO : Own G h L) (hc : pc ∈ L) : Rdl L e p l xs := hs.rdl ok hc
theorem Own.closeWith {G h c : Heap} {cs R : List Heap} (hj : JoinOf c cs) (hO : Own G h (cs ++ R)) : Own G h (c :: R) := by
 obtain ⟨_, h1⟩ := Own.closeJ hO
 rw [hj.eq]; exact h1
theorem Own.reclose {G h c : Heap} {cs L R : List Heap} (hj : JoinOf c cs) (t : (c :: R).Perm L) (hO : Own G h (cs ++ R)) : Own G h L := (Own.closeWith hj hO).perm t.symm
end Go.Sl
namespace Go.Sl
open Go
theorem Sli.grow {α : Type} {e : En α} {p : Option Addr} {l c : Nat} {xs : List α} {pc : Heap} (h : Sli e p l c xs pc) {m : Nat} (hm : l + m <= c) : ∃ ys, ys.length = m /\ Sli e p (l + m) c (xs ++ ys) pc := by
 cases h with
 | no =>
  have : m = 0 := by omega
  subst this
  exact ⟨[], rfl, .no⟩
 | bk js z hz =>
  have hl : (js.take m).length = m := by simp; omega
  refine ⟨js.take m, hl, ?_⟩
  have := Sli.bk (e := e) (b := by assumption) (xs := xs ++ js.take m) (js.drop m) z (by rw [List.append_assoc, List.take_append_drop]; exact hz)
  rw [List.append_assoc, List.take_append_drop, List.length_append, hl, List.length_drop] at this
  rw [show xs.length + m + (js.length - m) = xs.length + js.length by omega] at this
  exact this
theorem Sli.shrink {α : Type} {e : En α} {p : Option Addr} {l c : Nat} {xs : List α} {pc : Heap} (h : Sli e p l c xs pc) {i : Nat} (hi : i <= l) : Sli e p i c (xs.take i) pc := by
 cases h with
 | no =>
  have : i = 0 := by omega
  subst this
  exact .no
 | bk js z hz =>
  have hl : (xs.take i).length = i := by simp; omega
  have := Sli.bk (e := e) (b := by assumption) (xs := xs.take i) (xs.drop i ++ js) z (by rw [<- List.append_assoc, List.take_append_drop]; exact hz)
  rw [<- List.append_assoc, List.take_append_drop, hl, List.length_append, List.length_drop] at this
  rw [show i + (xs.length - i + js.length) = xs.length + js.length by omega] at this
  exact this
theorem firstCells_len (sz n : Nat) (p : Option Addr) (l l' c : Nat) : Builtin.firstCells sz n (.slice p l c) = Builtin.firstCells sz n (.slice p l' c) := by cases p <;> rfl
theorem appendIn_go {P : Program} {G h : Heap} {L R : List Heap} {α : Type} {e : En α} {tS tX : TypeId} (T : SlT P tS e) {fX : TypeId} (hX : P.underlying tX = some (.slice fX)) {p p2 : Option Addr} {l c l2 c2 : Nat} {xs ys : List α} {pc : Heap}
  (hO : Own G h L) (t : (pc :: R).Perm L) (hs : Sli e p l c xs pc) (hr : RdS G h e p2 l2 ys) (hle : l + l2 <= c)
  {K : Value -> Heap -> Prop} {Kp : PK} (hk : ∀ h' pc', Sli e p (l + l2) c (xs ++ ys) pc' -> Own G h' (pc' :: R) -> K (.slice p (l + l2) c) h') :
  slV P G (Builtin.append_ #[tS, tX] tS #[.slice p l c, .slice p2 l2 c2]) K Kp h := by
 have hO' := hO.perm t
 obtain ⟨i, hi, hsz, hby, zv, hz, hzc⟩ := T.info
 unfold slV slN Builtin.append_
 simp only [List.getElem?_toArray, List.getElem?_cons_zero, List.getElem?_cons_succ]
 rw [bind_assoc']
 refine sl_bindPr (pr_underlying T.ud) ?_
 dsimp only
 rw [bind_assoc']
 refine sl_bindPr (pr_sizeOf hi) ?_
 rw [bind_assoc']
 simp only [pure_bind', bind_assoc' (underlying tX)]
 refine sl_bindPr (pr_underlying hX) ?_
 simp only [Bool.false_eq_true, if_false, Builtin.lenOf, pure_bind', Bool.not_false, if_true, false_or]
 rw [hsz]
 have hl := hs.len
 have hl2 := hr.1
 rw [if_pos hle, bind_assoc']
 refine sl_firstCells hr T.ok ?_
 cases hs with
 | no =>
  have h0 : l2 = 0 := by omega
  have hy : ys = [] := List.length_eq_zero_iff.1 (by omega)
  subst hy
  subst h0
  exact hk h emp .no hO'
 | bk js z hz' =>
  rename_i b
  dsimp only
  simp only [bind_assoc', pure_bind', add_mk, Nat.zero_add]
  have hfl : (e.F (xs ++ js)).length = (xs.length + js.length) * e.m := by rw [En.F_len T.ok]; simp
  have hyl : (e.F ys).length = ys.length * e.m := En.F_len T.ok ys
  have hmul : xs.length * e.m + ys.length * e.m <= (xs.length + js.length) * e.m := by rw [<- Nat.add_mul]; exact Nat.mul_le_mul_right _ (by omega)
  have hb := hO'.find (Find.here b (blk e z (xs ++ js)) R)
  refine sl_storeCells _ _ 0 ?_
  refine stL_blk (a := ⟨b, xs.length * e.m, none⟩) rfl (cs := e.F (xs ++ js)) (t := e.t) (z := z) _ hb (λ i hi => hz' i (by rw [hfl] at hi; simpa using hi)) (λ v hv => En.F_plain T.ok ys v hv) (by simp only [hfl]; rw [hyl]; omega) ?_
  have hw : wr (e.F (xs ++ js)) (xs.length * e.m) (e.F ys) = e.F (xs ++ ys ++ js.drop ys.length) := by
   have h1 : (e.F xs).length = xs.length * e.m := En.F_len T.ok xs
   unfold wr
   rw [En.F_app, <- h1, List.take_left, List.drop_append, En.F_app, En.F_app]
   congr 1
   rw [show (e.F xs).length + (e.F ys).length - (e.F xs).length = (e.F ys).length by omega, List.drop_eq_nil_of_le (by omega), List.nil_append, hyl]
   have hjs : js = js.take ys.length ++ js.drop ys.length := (List.take_append_drop _ _).symm
   have h3 : (e.F (js.take ys.length)).length = ys.length * e.m := by rw [En.F_len T.ok]; simp; rw [Nat.min_eq_left (by omega)]
   conv => lhs; rw [hjs, En.F_app, <- h3, List.drop_left]
  have hset := hO'.set (Find.here b (blk e z (xs ++ js)) R) (blk e z (xs ++ ys ++ js.drop ys.length))
  show K _ _
  simp only [Nat.add_zero, hw]
  refine hk _ _ ?_ hset
  have := Sli.bk (e := e) (b := b) (xs := xs ++ ys) (js.drop ys.length) z (zok_mono hz' (Nat.mul_le_mul_right _ (by simp; omega)))
  simp only [List.length_append, List.length_drop] at this
  rw [show xs.length + ys.length + (js.length - ys.length) = xs.length + js.length by omega] at this
  rw [hl2]; exact this
theorem copyM_go {P : Program} {G h : Heap} {L R : List Heap} {α : Type} {e : En α} {tS tX tR : TypeId} (T : SlT P tS e) {p p2 : Option Addr} {l c l2 c2 n : Nat} {xs ys : List α} {pc : Heap}
  (hO : Own G h L) (t : (pc :: R).Perm L) (hs : Sli e p l c xs pc) (hr : RdS G h e p2 n ys) (k : Nat) (hk0 : k + n <= l)
  {K : Value -> Heap -> Prop} {Kp : PK} (hk : ∀ h' pc', Sli e p l c (xs.take k ++ ys ++ xs.drop (k + n)) pc' -> Own G h' (pc' :: R) -> K (.int .i64 n) h')
  {p1 : Option Addr} {l1 c1 : Nat} (hp1 : p1 = p.map (·.add (k * e.m))) (hn : Nat.min l2 l1 = n) :
  slV P G (Builtin.copy_ #[tS, tX] tR #[.slice p1 l1 c1, .slice p2 l2 c2]) K Kp h := by
 have hO' := hO.perm t
 obtain ⟨i, hi, hsz, hby, zv, hz, hzc⟩ := T.info
 unfold slV slN Builtin.copy_
 simp only [List.getElem?_toArray, List.getElem?_cons_zero, List.getElem?_cons_succ]
 rw [bind_assoc']
 refine sl_bindPr (pr_underlying T.ud) ?_
 dsimp only
 simp only [Builtin.lenOf, pure_bind']
 rw [bind_assoc']
 refine sl_bindPr (pr_sizeOf hi) ?_
 rw [hn, bind_assoc', hsz, firstCells_len _ _ p2 l2 n]
 have hl := hs.len
 have hl2 := hr.1
 refine sl_firstCells hr T.ok ?_
 cases hs with
 | no =>
  have h0 : n = 0 := by omega
  have hk00 : k = 0 := by omega
  have hy : ys = [] := List.length_eq_zero_iff.1 (by omega)
  subst hy; subst h0; subst hp1; subst hk00
  exact hk h emp .no hO'
 | bk js z hz' =>
  rename_i b
  subst hp1
  dsimp only [Option.map]
  simp only [bind_assoc', pure_bind', add_mk, Nat.zero_add]
  have hfl : (e.F (xs ++ js)).length = (xs.length + js.length) * e.m := by rw [En.F_len T.ok]; simp
  have hyl : (e.F ys).length = ys.length * e.m := En.F_len T.ok ys
  have hmul : k * e.m + ys.length * e.m <= xs.length * e.m := by rw [<- Nat.add_mul]; exact Nat.mul_le_mul_right _ (by omega)
  have hmul2 : (xs.length + js.length) * e.m = xs.length * e.m + js.length * e.m := Nat.add_mul _ _ _
  have hb := hO'.find (Find.here b (blk e z (xs ++ js)) R)
  refine sl_storeCells _ _ 0 ?_
  refine stL_blk (a := ⟨b, k * e.m, none⟩) rfl (cs := e.F (xs ++ js)) (t := e.t) (z := z) _ hb (λ i hi => hz' i (by rw [hfl] at hi; simpa using hi)) (λ v hv => En.F_plain T.ok ys v hv) (by simp only [hfl]; rw [hyl]; omega) ?_
  have hw : wr (e.F (xs ++ js)) (k * e.m) (e.F ys) = e.F (xs.take k ++ ys ++ xs.drop (k + n) ++ js) := by
   have h1 : (e.F (xs.take k)).length = k * e.m := by rw [En.F_len T.ok]; simp; rw [Nat.min_eq_left (by omega)]
   have h2 : (e.F ((xs.drop k).take n)).length = ys.length * e.m := by rw [En.F_len T.ok]; simp; rw [Nat.min_eq_left (by omega), hl2]
   have hsp : xs = xs.take k ++ ((xs.drop k).take n ++ xs.drop (k + n)) := by
    rw [<- List.drop_drop, List.take_append_drop, List.take_append_drop]
   unfold wr
   conv => lhs; rw [hsp]
   simp only [En.F_app, List.append_assoc]
   rw [<- h1, List.take_left, hyl]
   congr 1
   congr 1
   rw [<- h2, <- List.drop_drop, List.drop_left, List.drop_left]
  have hset := hO'.set (Find.here b (blk e z (xs ++ js)) R) (blk e z (xs.take k ++ ys ++ xs.drop (k + n) ++ js))
  show K _ _
  simp only [Nat.add_zero, hw]
  refine hk _ _ ?_ hset
  have hlen : (xs.take k ++ ys ++ xs.drop (k + n)).length = xs.length := by simp; omega
  have := Sli.bk (e := e) (b := b) (xs := xs.take k ++ ys ++ xs.drop (k + n)) js z (by rw [List.length_append, hlen, <- List.length_append]; exact hz')
  rw [hlen] at this
  exact this
theorem appendz_go {P : Program} {G h : Heap} {L R : List Heap} {α : Type} {e : En α} {tS tI : TypeId} (T : SlT P tS e) (hI : P.underlying tI = some (.int .i64)) {p : Option Addr} {l c : Nat} {n : Int} {xs : List α} {pc : Heap}
  (hO : Own G h L) (t : (pc :: R).Perm L) (hs : Sli e p l c xs pc) (hn : 0 <= n /\ n <= 4294967) (hsm : l <= 4294967) (hc : c < l + n.toNat)
  {K : Value -> Heap -> Prop} {Kp : PK} (hk : ∀ h' b c' pc', Sli e (some ⟨b, 0, none⟩) (l + n.toNat) c' (xs ++ List.replicate n.toNat e.z) pc' -> Own G h' (pc' :: pc :: R) -> K (.slice (some ⟨b, 0, none⟩) (l + n.toNat) c') h') :
  slV P G (Builtin.append_ #[tS, tI] tS #[.slice p l c, .int .i64 n]) K Kp h := by
 have hO' := hO.perm t
 obtain ⟨i, hi, hsz, hby, zv, hz, hzc⟩ := T.info
 have hwn : IntKind.i64.wrap n = n := wrap_i64 (by omega) (by omega)
 have hb48 : ¬ (n * (i.bytes : Int) > 2 ^ 48) := by
  have h1 : n * (i.bytes : Int) <= 4294967 * 1024 := by
   have h2 : n.toNat * i.bytes <= 4294967 * 1024 := Nat.mul_le_mul (by omega) hby
   have h3 : n * (i.bytes : Int) = ((n.toNat * i.bytes : Nat) : Int) := by rw [Int.natCast_mul]; congr 1; omega
   omega
  omega
 unfold slV slN Builtin.append_
 simp only [List.getElem?_toArray, List.getElem?_cons_zero, List.getElem?_cons_succ]
 rw [bind_assoc']
 refine sl_bindPr (pr_underlying T.ud) ?_
 dsimp only
 rw [bind_assoc']
 refine sl_bindPr (pr_sizeOf hi) ?_
 rw [bind_assoc']
 simp only [pure_bind', bind_assoc' (underlying tI)]
 refine sl_bindPr (pr_underlying hI) ?_
 simp only [if_true, bind_assoc']
 refine sl_bindPr (v := n) rfl ?_
 simp only [hwn]
 rw [if_neg (by omega), bind_assoc']
 refine sl_bindPr (pr_typeInfo hi) ?_
 rw [if_neg hb48]
 simp only [pure_bind', bind_assoc', Bool.not_true, Bool.false_eq_true, if_false, true_or, and_true]
 rw [hsz]
 rw [if_neg (by omega)]
 have hl := hs.len
 have hmax : IntKind.i64.max = 9223372036854775807 := by decide
 rw [bind_assoc']
 refine sl_bindPr (pr_typeInfo hi) ?_
 rw [if_neg (by rw [hmax]; omega)]
 rw [bind_assoc']
 refine sl_bindPr (pr_typeInfo hi) ?_
 have hcap := nextcap_le (need := l + n.toNat) (cap := c) (by omega)
 have : Builtin.nextslicecap (l + n.toNat) c * i.bytes <= 2 ^ 48 := Nat.le_trans (Nat.mul_le_mul hcap hby) (by omega)
 rw [if_neg (by omega)]
 rw [bind_assoc']
 refine sl_choose (.inr rfl) λ tt => ?_
 generalize hnn : (Question.appendCap (l + n.toNat) c e.t).cut tt = nc
 have hnc : l + n.toNat <= nc := by rw [<- hnn]; simp only [Question.cut]; omega
 rw [bind_assoc']
 refine sl_bindPr (pr_typeInfo hi) ?_
 rw [bind_assoc']
 refine sl_askRoom ?_
 rw [bind_assoc']
 refine sl_firstCells (hs.rd hO' (by simp)) T.ok ?_
 have hpos := T.ok.pos
 rw [if_neg (by
  intro h0
  rcases Nat.mul_eq_zero.1 h0 with h | h
  ·have := hs.cap; omega
  ·omega)]
 simp only [bind_assoc']
 refine sl_bindPr (pr_zeroValue hi hz) ?_
 simp only [pure_bind']
 refine sl_bindPr (pr_zeroValue hi hz) ?_
 rw [hzc, repeat_F T.ok, repeat_F T.ok]
 unfold newRow
 simp only [bind_assoc', pure_bind']
 refine sl_new λ r h1 h2 => ?_
 have hnew := (hO'.new h1 h2 (blk e (0, 0) (xs ++ List.replicate n.toNat e.z ++ List.replicate (nc - (l + n.toNat)) e.z)))
 have hx : (e.F xs).toArray ++ (e.F (List.replicate n.toNat e.z)).toArray ++ (e.F (List.replicate (nc - (l + n.toNat)) e.z)).toArray = (e.F (xs ++ List.replicate n.toNat e.z ++ List.replicate (nc - (l + n.toNat)) e.z)).toArray := by
  apply Array.ext'; simp [En.F_app, -List.replicate_append_replicate]
 rw [hx]
 show K _ _
 have := Sli.bk (e := e) (b := r) (xs := xs ++ List.replicate n.toNat e.z) (List.replicate (nc - (l + n.toNat)) e.z) (0, 0) (zok_0 _)
 simp only [List.length_append, List.length_replicate] at this
 rw [<- hl, show l + n.toNat + (nc - (l + n.toNat)) = nc by omega] at this
 exact hk _ _ _ _ this hnew
theorem sclear_go {P : Program} {G h : Heap} {L R : List Heap} {α : Type} {e : En α} {tS ty : TypeId} (T : SlT P tS e) {p : Option Addr} {l c k k1 : Nat} {xs : List α} {pc : Heap}
  (hO : Own G h L) (t : (pc :: R).Perm L) (hs : Sli e p l c xs pc) (hk0 : l + k <= c)
  {K : Value -> Heap -> Prop} {Kp : PK} (hk : ∀ h' pc', Sli e p l c xs pc' -> Own G h' (pc' :: R) -> K (.tuple #[]) h') {p1 : Option Addr} (hp1 : 0 < k -> p1 = p.map (·.add (l * e.m))) :
  slV P G (Builtin.clear_ #[tS] ty #[.slice p1 k k1]) K Kp h := by
 have hO' := hO.perm t
 obtain ⟨i, hi, hsz, hby, zv, hz, hzc⟩ := T.info
 unfold slV slN Builtin.clear_
 simp only [List.getElem?_toArray, List.getElem?_cons_zero]
 rw [bind_assoc']
 refine sl_bindPr (pr_underlying T.ud) ?_
 cases k with
 | zero =>
  cases p1 <;> exact hk h pc hs hO'
 | succ k =>
  replace hp1 := hp1 (by omega)
  cases hs with
  | no => omega
  | bk js z hz' =>
   rename_i b
   subst hp1
   dsimp only [Option.map]
   simp only [bind_assoc', pure_bind', add_mk, Nat.zero_add]
   refine sl_bindPr (pr_zeroValue hi hz) ?_
   rw [hzc, repeat_F T.ok]
   have hfl : (e.F (xs ++ js)).length = (xs.length + js.length) * e.m := by rw [En.F_len T.ok]; simp
   have hyl : (e.F (List.replicate (k + 1) e.z)).length = (k + 1) * e.m := by rw [En.F_len T.ok]; simp
   have hmul : xs.length * e.m + (k + 1) * e.m <= (xs.length + js.length) * e.m := by rw [<- Nat.add_mul]; exact Nat.mul_le_mul_right _ (by omega)
   have hb := hO'.find (Find.here b (blk e z (xs ++ js)) R)
   refine sl_storeCells _ _ 0 ?_
   refine stL_blk (a := ⟨b, xs.length * e.m, none⟩) rfl (cs := e.F (xs ++ js)) (t := e.t) (z := z) _ hb (λ i hi => hz' i (by rw [hfl] at hi; simpa using hi)) (λ v hv => En.F_plain T.ok _ v hv) (by simp only [hfl]; rw [hyl]; omega) ?_
   have hw : wr (e.F (xs ++ js)) (xs.length * e.m) (e.F (List.replicate (k + 1) e.z)) = e.F (xs ++ (List.replicate (k + 1) e.z ++ js.drop (k + 1))) := by
    have h1 : (e.F xs).length = xs.length * e.m := En.F_len T.ok xs
    unfold wr
    rw [En.F_app, <- h1, List.take_left, List.drop_append, En.F_app, En.F_app, List.append_assoc]
    congr 1
    rw [show (e.F xs).length + (e.F (List.replicate (k + 1) e.z)).length - (e.F xs).length = (e.F (List.replicate (k + 1) e.z)).length by omega, List.drop_eq_nil_of_le (by omega), List.nil_append, hyl]
    congr 1
    have hjs : js = js.take (k + 1) ++ js.drop (k + 1) := (List.take_append_drop _ _).symm
    have h3 : (e.F (js.take (k + 1))).length = (k + 1) * e.m := by rw [En.F_len T.ok]; simp; rw [Nat.min_eq_left (by omega)]
    conv => lhs; rw [hjs, En.F_app, <- h3, List.drop_left]
   have hset := hO'.set (Find.here b (blk e z (xs ++ js)) R) (blk e z (xs ++ (List.replicate (k + 1) e.z ++ js.drop (k + 1))))
   show K _ _
   simp only [Nat.add_zero, hw]
   refine hk _ _ ?_ hset
   have := Sli.bk (e := e) (b := b) (xs := xs) (List.replicate (k + 1) e.z ++ js.drop (k + 1)) z (zok_mono hz' (Nat.mul_le_mul_right _ (by simp; omega)))
   simp only [List.length_append, List.length_replicate, List.length_drop] at this
   rw [show xs.length + (k + 1 + (js.length - (k + 1))) = xs.length + js.length by omega] at this
   exact this
theorem overlaps_sl {P : Program} {G h : Heap} {tS tR te : TypeId} {i : TypeInfo} (hu : P.underlying tS = some (.slice te)) (hi : P.info? te = some i) {a b : Addr} {la ca lb cb : Nat} {cs cs2 : Array Value} {ta tb : TypeId} {z2 : Nat × Nat}
  (hne : a.block ≠ b.block) (ha : h a.block = some (.cells cs ta (0, 0))) (hb : h b.block = some (.cells cs2 tb z2)) (hsz : cs2.size ≠ 0)
  {K : Value -> Heap -> Prop} {Kp : Value -> Heap -> Prop} (hK : K (.bool false) h) : sl P G (Extern.SlicesOverlaps.overlaps #[tS, tS] #[tR] #[.slice (some a) la ca, .slice (some b) lb cb]) K Kp h := by
 have hnb : (a.block != b.block) = true := by simpa using hne
 have hnb' : (a.block == b.block) = false := by simpa using hne
 have ra : rd G h a.block = some (.cells cs ta (0, 0)) := by unfold rd; rw [ha]
 have rb : rd G h b.block = some (.cells cs2 tb z2) := by unfold rd; rw [hb]
 have fz : ∀ n, ofrozen (.cells cs ta (0, 0)) n = false := λ n => by simp [ofrozen]
 change sl P G (α := Value) (do
  let some t := (#[tS, tS] : Array TypeId)[0]? | stuck "slices.overlaps: no parameter types"
  let .slice elem <- underlying t | stuck "slices.overlaps: slice type expected"
  let size <- sizeOf elem
  match (some a : Option Addr), (some b : Option Addr) with
  | some a, some b =>
   if la = 0 ∨ lb = 0 ∨ size = 0 then pure (Value.bool false)
   else if a.block != b.block && (<- frozen a) && (<- frozen b) then unsupported .addressObserved
   else do
    if a.block != b.block then do
     noView a; noView b
     if <- mayBeOne a b then return Value.bool ((<- choose (.extern "sameAddr.stringBytes" 2)) == 1)
    pure (Value.bool (a.block == b.block && a.off < b.off + lb * size && b.off < a.off + la * size))
  | _, _ => pure (Value.bool false)) K Kp h
 simp only [List.getElem?_toArray, List.getElem?_cons_zero]
 refine sl_bindPr (pr_underlying hu) ?_
 dsimp only
 refine sl_bindPr (pr_sizeOf hi) ?_
 by_cases h0 : la = 0 ∨ lb = 0 ∨ i.size = 0
 ·rw [if_pos h0]; exact hK
 ·rw [if_neg h0, hnb, hnb']
  refine ⟨_, ra, ?_⟩
  rw [fz]
  refine ⟨_, rb, ?_⟩
  simp only [Bool.true_and, Bool.false_and, Bool.false_eq_true, if_false, if_true]
  refine ⟨_, ra, ?_⟩
  refine ⟨_, rb, ?_⟩
  refine ⟨_, ra, ?_⟩
  rw [fz]
  refine ⟨_, ra, ?_⟩
  refine ⟨_, ra, ?_⟩
  rw [fz]
  refine ⟨_, rb, ?_⟩
  obtain ⟨n, hn⟩ : ∃ n, cs2.size = n + 1 := ⟨cs2.size - 1, by omega⟩
  have hsh : oshape (.cells cs2 tb z2) = some (tb, n + 1) := by simp [oshape, hn]
  have fin : ∀ sb : Bool, sl P G ((do
    let x <- shape a.block
    let y <- shape b.block
    pure (false && sb || false && (match x with | some (_, 0) => true | _ => false) || sb && (match y with | some (_, 0) => true | _ => false)) : Sem Bool) >>= λ q =>
     (if q = true then do
      let __do_lift <- choose (Question.extern "sameAddr.stringBytes" 2)
      pure (Value.bool (__do_lift == 1))
     else pure (Value.bool false))) K Kp h := λ sb => by
   refine ⟨_, ra, ?_⟩
   refine ⟨_, rb, ?_⟩
   rw [hsh]
   cases sb <;> exact hK
  cases hf : ofrozen (.cells cs2 tb z2) b.off with
  | true => exact fin true
  | false =>
   refine ⟨_, rb, ?_⟩
   rw [hsh]
   refine ⟨_, rb, ?_⟩
   exact fin _
theorem sl_map {P : Program} {α β : Type} (g : α -> β) (s : Sem α) : ∀ {G : Heap} {K : β -> Heap -> Prop} {Kp : Value -> Heap -> Prop} {h : Heap}, sl P G s (λ v h => K (g v) h) Kp h -> sl P G (Sem.bind s λ v => Sem.pure (g v)) K Kp h := by
 induction s with
 | pure a => intro G K Kp h hs; exact hs
 | load m a k ih => intro G K Kp h hs; obtain ⟨v, hv, hk⟩ := hs; exact ⟨v, hv, ih v hk⟩
 | store m a v k ih => intro G K Kp h hs; obtain ⟨hp, o, ho, hu, hz, hk⟩ := hs; exact ⟨hp, o, ho, hu, hz, ih hk⟩
 | new o k ih => intro G K Kp h hs r h1 h2; exact ih r (hs r h1 h2)
 | shape r k ih => intro G K Kp h hs; obtain ⟨o, ho, hk⟩ := hs; exact ⟨o, ho, ih _ hk⟩
 | freeze a n k ih =>
  intro G K Kp h hs
  simp only [Sem.bind, sl] at hs ⊢
  by_cases h0 : n = 0
  ·rw [if_pos h0] at hs ⊢; exact ih hs
  ·rw [if_neg h0] at hs ⊢; obtain ⟨o, ho, hk⟩ := hs; exact ⟨o, ho, ih hk⟩
 | frozen a k ih => intro G K Kp h hs; obtain ⟨o, ho, hk⟩ := hs; exact ⟨o, ho, ih _ hk⟩
 | getObj r k ih => intro G K Kp h hs; obtain ⟨o, ho, hc, hk⟩ := hs; exact ⟨o, ho, hc, ih _ hk⟩
 | setObj r o k ih => intro G K Kp h hs; obtain ⟨o', ho, hc, hk⟩ := hs; exact ⟨o', ho, hc, ih hk⟩
 | choose q k ih =>
  intro G K Kp h hs
  simp only [Sem.bind, sl] at hs ⊢
  by_cases h0 : q.forced = true
  ·rw [if_pos h0] at hs ⊢; exact ih 0 hs
  ·rw [if_neg h0] at hs ⊢; exact λ t => ih _ (hs t)
 | sys c k ih => intro G K Kp h hs; exact hs.elim
 | program k ih => intro G K Kp h hs; exact ih _ hs
 | mark m k ih =>
  intro G K Kp h hs
  exact ih (by simpa only [sl] using hs)
 | halt x =>
  intro G K Kp h hs
  cases x with
  | panic v => exact hs
  | _ => simp only [sl] at hs
end Go.Sl
namespace Go.Sl
open Go
variable {D : List Deferred}
def Wd (F : Fence) : Prop := ∃ ro, F = { Fence.wide with round := ro }
theorem wd_round (l : Nat) : Wd (Fence.wide.inRound l) := ⟨some l, rfl⟩
theorem Wd.calls {F : Fence} (hF : Wd F) {n : Nat} {P : Program} {f : FuncId} {args : Array Value} {w : World} {R : Ending -> World -> Prop} (h : Calls P f args w R) : CallsIn F n P f args w R := by
 obtain ⟨ro, rfl⟩ := hF
 exact (callsIn_wide (n := n)).2 h
theorem Wd.depth {F : Fence} (hF : Wd F) {X : Prop} : F.depth.isSome = true -> X := by
 obtain ⟨ro, rfl⟩ := hF
 intro h; cases h
theorem Wd.rows {F : Fence} (hF : Wd F) {n : Nat} {P : Program} {row : String} {args : Array Value} {w : World} {R : Value -> World -> Prop} (h : Rows P row args w R) : RowsIn F n P row args w R := by
 obtain ⟨ro, rfl⟩ := hF
 intro c cs _
 obtain ⟨v, w', r, s⟩ := h c cs
 exact ⟨v, w', r, stepsIn_wide.2 s⟩
def noDf (o : Oper) : Bool := match o.op with | .defer _ => false | _ => true
theorem noDf_ok {o : Oper} (h : noDf o = true) : ∀ c, o.op ≠ .defer c := λ c e => by unfold noDf at h; rw [e] at h; cases h
theorem wp_in {F : Fence} (hF : Wd F) {n : Nat} {P : Program} {o : Oper} {a : Act} {w : World} {K K' : Act -> World -> Prop} {Q Q' : Exit -> Act -> World -> Prop} (hd : noDf o = true) (hP : ∀ c a w, Q (.panic c) a w -> Q' (.panic c) a w) (hL : ¬ LetsOut Q) (hK : ∀ a w, K a w -> K' a w)
  (h : o.wp P a w K Q) : o.wpIn F n P a w K' Q' := by
 have hdep : ∀ {X : Prop}, F.depth.isSome = true -> X := λ {X} => hF.depth
 refine ⟨λ f _ => by obtain ⟨ro, rfl⟩ := hF; exact trivial, ?_⟩
 rw [Oper.semAt_eq _ _ _ (noDf_ok hd)]
 unfold Oper.wp at h
 generalize (execOp a.eval o).run P w = r at h ⊢
 cases r with
 | ok x w' =>
  cases x with
  | value v => exact hK _ _ h
  | skip => exact hK _ _ h
  | defer d => exact hK _ _ h
  | enter f args =>
   refine ⟨hdep, hF.calls (Calls.mono h λ e w'' he => ?_)⟩
   cases e with
   | returned v => exact hK _ _ he
   | panicked c => exact hP _ _ _ he
   | outgrown => exact (hL he).elim
  | row row args => exact ⟨hdep, hF.rows (Rows.mono h λ _ _ he => hK _ _ he)⟩
  | _ => exact h.elim
 | halt x w' =>
  cases x with
  | panic v => exact hP _ _ _ h
  | _ => exact h.elim
theorem wpOp_in {F : Fence} (hF : Wd F) {n : Nat} {P : Program} {ops : Array Oper} {i : Nat} {a : Act} {w : World} {K K' : Act -> World -> Prop} {Q Q' : Exit -> Act -> World -> Prop} (hd : ∀ o ∈ ops, noDf o = true) (hP : ∀ c a w, Q (.panic c) a w -> Q' (.panic c) a w) (hL : ¬ LetsOut Q) (hK : ∀ a w, K a w -> K' a w)
  (h : wpOp P ops Q i K a w) : wpOpIn F n P ops Q' i K' a w := by
 unfold wpOp at h
 unfold wpOpIn
 cases ho : ops[i]? with
 | none => rw [ho] at h; exact hK _ _ h
 | some o =>
  rw [ho] at h
  simp only at h ⊢
  split
  ·rename_i hw
   rw [if_pos hw] at h
   rcases h with h | ⟨_, h⟩
   ·exact wp_in hF (hd o (Array.mem_of_getElem? ho)) hP hL hK h
   ·exact (hL h).elim
  ·rename_i hw
   rw [if_neg hw] at h
   exact ⟨λ f _ => by obtain ⟨ro, rfl⟩ := hF; exact trivial, hK _ _ h⟩
theorem wpOps_in {F : Fence} (hF : Wd F) {n : Nat} {P : Program} {ops : Array Oper} {l2 : List Nat} {Q Q' : Exit -> Act -> World -> Prop} (hd : ∀ o ∈ ops, noDf o = true) (hP : ∀ c a w, Q (.panic c) a w -> Q' (.panic c) a w) (hL : ¬ LetsOut Q) (hN : ∀ a w, Q .normal a w -> wpOpsIn F n P ops Q' l2 a w) (l1 : List Nat) :
  ∀ {a : Act} {w : World}, wpOps P ops Q l1 a w -> wpOpsIn F n P ops Q' (l1 ++ l2) a w := by
 induction l1 with
 | nil => intro a w h; exact hN _ _ h
 | cons i l1 ih =>
  intro a w h
  rw [wpOps_cons] at h
  rw [List.cons_append, wpOpsIn_cons]
  exact wpOp_in hF hd hP hL (λ a w h => ih h) h
theorem wpAny_in {F : Fence} (hF : Wd F) {n : Nat} {P : Program} {md : Region.Mode} {ops : Array Oper} {Q : Exit -> Act -> World -> Prop} (hd : ∀ o ∈ ops, noDf o = true) (hL : ¬ LetsOut Q) : ∀ (fuel : Nat) {listed : Array Bool} {a : Act} {w : World}, wpAny P md ops Q fuel listed a w -> wpAnyIn F n P md ops Q fuel listed a w := by
 intro fuel
 induction fuel with
 | zero => intro listed a w h; exact h
 | succ fuel ih => intro listed a w h; exact ⟨h.1, λ i hi => wpOp_in hF hd (λ _ _ _ h => h) hL (λ a w h => ih h) (h.2 i hi)⟩
theorem qw_out {n : Nat} {G : Heap} {F : RF} {X : Frm -> Prop} {Q : Exit -> Frm -> Heap -> Prop} {Kp : PK} : ¬ LetsOut (QW D n G F X Q Kp) := λ ⟨_, _, h⟩ => h
theorem reg_in {E : TE} {P : Program} (T : TOk P E) (hm : P.follows .mixedOrders = true) {Fn : Fence} (hF : Wd Fn) {m : Nat} {G : Heap} {F : RF} {n : Nat} {ann : Nat -> LAnn} {Kp : PK} {id : Nat} {ops : Array Oper} {d : Bool} {Q : Exit -> Frm -> Heap -> Prop} {ρ : Frm} {h : Heap} {a : Act} {w : World} (hd : ops.toList.all noDf = true)
  (hh : vcC E P G n ann Kp (.region id ops d) Q ρ h) (g : Ag D n a ρ) (f : Fr G w h F) : (Code.region id ops d).wpIn Fn m P (QW D n G F (λ _ => True) Q Kp) a w := by
 have hd' : ∀ o ∈ ops, noDf o = true := λ o ho => List.all_eq_true.1 hd o (by simpa using ho)
 have hX' : ∀ (o : Oper) (ρ ρ' : Frm), o ∈ ops -> (∀ t, o.dst ≠ some t -> ρ' t = ρ t) -> True -> True := λ _ _ _ _ _ _ => trivial
 cases d with
 | false =>
  simp only [vcC, cond_false] at hh
  refine wpIn_region ?_
  rw [List.range_eq_range', <- Array.length_toList]
  have := wpOps_in hF (n := m) (l2 := []) (Q' := QW D n G F (λ _ => True) Q Kp) hd' (λ _ _ _ h => h) qw_out (λ a w h => h) _ (vcRun_spec T (F := F) (X := λ _ => True) hX' ops.toList 0 (by simp) hh g f trivial)
  rwa [List.append_nil] at this
 | true =>
  simp only [vcC, cond_true] at hh
  cases hs : noSel ops.toList with
  | false => rw [hs] at hh; exact hh.elim
  | true =>
   rw [hs] at hh
   simp only [cond_true] at hh
   refine wpIn_region_any hm (wpAny_in hF hd' qw_out _ (wpAnyS_any _ _ _ _ (vcAny_spec T (X := λ _ => True) hX' hs ops.size (List.range' 0 ops.size) [] ρ h _ a _ (List.nodup_range') ?_ ?_ (by simpa using hh) g (f.to rfl) trivial)))
   ·exact ⟨by simp, λ j hj => by simp [hj, List.mem_range'_1], λ j hj => by simpa [List.mem_range'_1] using hj⟩
   ·intro k o ho hk
    have : k < ops.size := (Array.getElem?_eq_some_iff.1 ho).1
    simp [this] at hk
end Go.Sl
namespace Go.Sl
open Go Go.Proofs
set_option maxRecDepth 100000
variable {G h : Heap} {K : Value -> Heap -> Prop} {Kp : PK}
theorem hmix : Tryz.prog.follows .mixedOrders = true := by kernel_rfl
noncomputable def R0 : TRow := { t := 0, d := .tuple #[], sz := 1, zv := Tryz.t0.zero, ty := .tup [], feq := none }
theorem R0_ok : RowOk Tryz.prog R0 := rowOk_plain Tryz.underlying0 (info_of Tryz.types_size (by kernel_rfl) Tryz.type0) rfl (.inr rfl) rfl
noncomputable def R3 : TRow := { t := 3, d := .int .i64, sz := 1, zv := Tryz.t3.zero, ty := .int .i64, feq := none }
theorem R3_ok : RowOk Tryz.prog R3 := rowOk_plain Tryz.underlying3 (info_of Tryz.types_size (by kernel_rfl) Tryz.type3) rfl (.inr rfl) rfl
noncomputable def R4 : TRow := { t := 4, d := .bool, sz := 1, zv := Tryz.t4.zero, ty := .bool, feq := none }
theorem R4_ok : RowOk Tryz.prog R4 := rowOk_plain Tryz.underlying4 (info_of Tryz.types_size (by kernel_rfl) Tryz.type4) rfl (.inr rfl) rfl
noncomputable def R5 : TRow := { t := 5, d := .int .u8, sz := 1, zv := Tryz.t5.zero, ty := .int .u8, feq := none }
theorem R5_ok : RowOk Tryz.prog R5 := rowOk_plain Tryz.underlying5 (info_of Tryz.types_size (by kernel_rfl) Tryz.type5) rfl (.inr rfl) rfl
noncomputable def R9 : TRow := { t := 9, d := .string, sz := 1, zv := Tryz.t9.zero, ty := .str, feq := none }
theorem R9_ok : RowOk Tryz.prog R9 := rowOk_plain Tryz.underlying9 (info_of Tryz.types_size (by kernel_rfl) Tryz.type9) rfl (.inr rfl) rfl
noncomputable def R20 : TRow := { t := 20, d := .interface #[], sz := 1, zv := Tryz.t20.zero, ty := .any, feq := none }
theorem R20_ok : RowOk Tryz.prog R20 := rowOk_plain Tryz.underlying20 (info_of Tryz.types_size (by kernel_rfl) Tryz.type20) rfl (.inr rfl) rfl
noncomputable def R22 : TRow := { t := 22, d := .slice 90, sz := 1, zv := Tryz.t22.zero, ty := .slice, feq := none }
theorem R22_ok : RowOk Tryz.prog R22 := rowOk_plain Tryz.underlying22 (info_of Tryz.types_size (by kernel_rfl) Tryz.type22) rfl (.inr rfl) rfl
noncomputable def R23 : TRow := { t := 23, d := .slice 3, sz := 1, zv := Tryz.t23.zero, ty := .slice, feq := none }
theorem R23_ok : RowOk Tryz.prog R23 := rowOk_plain Tryz.underlying23 (info_of Tryz.types_size (by kernel_rfl) Tryz.type23) rfl (.inr rfl) rfl
noncomputable def R25 : TRow := { t := 25, d := .pointer 94, sz := 1, zv := Tryz.t25.zero, ty := .ptr, feq := none }
theorem R25_ok : RowOk Tryz.prog R25 := rowOk_plain Tryz.underlying25 (info_of Tryz.types_size (by kernel_rfl) Tryz.type25) rfl (.inr rfl) rfl
noncomputable def R26 : TRow := { t := 26, d := .tuple #[24, 25, 4], sz := 1, zv := Tryz.t26.zero, ty := .tup [.ptr, .ptr, .bool], feq := none }
theorem R26_ok : RowOk Tryz.prog R26 := rowOk_plain Tryz.underlying26 (info_of Tryz.types_size (by kernel_rfl) Tryz.type26) rfl (.inr rfl) rfl
noncomputable def R28 : TRow := { t := 28, d := descOf Tryz.prog 28, sz := 1, zv := Tryz.t28.zero, ty := .any, feq := none }
theorem R28_ok : RowOk Tryz.prog R28 := rowOk_plain (descOf_ok Tryz.underlying28) (info_of Tryz.types_size (by kernel_rfl) Tryz.type28) rfl (.inr rfl) rfl
noncomputable def R29 : TRow := { t := 29, d := .pointer 199, sz := 1, zv := Tryz.t29.zero, ty := .ptr, feq := none }
theorem R29_ok : RowOk Tryz.prog R29 := rowOk_plain Tryz.underlying29 (info_of Tryz.types_size (by kernel_rfl) Tryz.type29) rfl (.inr rfl) rfl
noncomputable def R30 : TRow := { t := 30, d := .array 3 29, sz := 3, zv := Tryz.t30.zero, ty := .agg [.ptr, .ptr, .ptr], feq := none }
theorem R30_ok : RowOk Tryz.prog R30 := rowOk_plain Tryz.underlying30 (info_of Tryz.types_size (by kernel_rfl) Tryz.type30) rfl (.inr rfl) rfl
noncomputable def R31 : TRow := { t := 31, d := .pointer 98, sz := 1, zv := Tryz.t31.zero, ty := .ptr, feq := none }
theorem R31_ok : RowOk Tryz.prog R31 := rowOk_plain Tryz.underlying31 (info_of Tryz.types_size (by kernel_rfl) Tryz.type31) rfl (.inr rfl) rfl
noncomputable def R32 : TRow := { t := 32, d := .pointer 131, sz := 1, zv := Tryz.t32.zero, ty := .ptr, feq := none }
theorem R32_ok : RowOk Tryz.prog R32 := rowOk_plain Tryz.underlying32 (info_of Tryz.types_size (by kernel_rfl) Tryz.type32) rfl (.inr rfl) rfl
noncomputable def R33 : TRow := { t := 33, d := .slice 124, sz := 1, zv := Tryz.t33.zero, ty := .slice, feq := none }
theorem R33_ok : RowOk Tryz.prog R33 := rowOk_plain Tryz.underlying33 (info_of Tryz.types_size (by kernel_rfl) Tryz.type33) rfl (.inr rfl) rfl
noncomputable def R34 : TRow := { t := 34, d := .array 3 33, sz := 3, zv := Tryz.t34.zero, ty := .agg [.slice, .slice, .slice], feq := none }
theorem R34_ok : RowOk Tryz.prog R34 := rowOk_plain Tryz.underlying34 (info_of Tryz.types_size (by kernel_rfl) Tryz.type34) rfl (.inr rfl) rfl
noncomputable def R35 : TRow := { t := 35, d := .array 3 3, sz := 3, zv := Tryz.t35.zero, ty := .agg [.int .i64, .int .i64, .int .i64], feq := none }
theorem R35_ok : RowOk Tryz.prog R35 := rowOk_plain Tryz.underlying35 (info_of Tryz.types_size (by kernel_rfl) Tryz.type35) rfl (.inr rfl) rfl
noncomputable def R36 : TRow := { t := 36, d := .slice 45, sz := 1, zv := Tryz.t36.zero, ty := .slice, feq := none }
theorem R36_ok : RowOk Tryz.prog R36 := rowOk_plain Tryz.underlying36 (info_of Tryz.types_size (by kernel_rfl) Tryz.type36) rfl (.inr rfl) rfl
noncomputable def R37 : TRow := { t := 37, d := .slice 84, sz := 1, zv := Tryz.t37.zero, ty := .slice, feq := none }
theorem R37_ok : RowOk Tryz.prog R37 := rowOk_plain Tryz.underlying37 (info_of Tryz.types_size (by kernel_rfl) Tryz.type37) rfl (.inr rfl) rfl
noncomputable def R39 : TRow := { t := 39, d := .struct #[{ name := "C", type := 30, offset := 0, embedded := false, tag := "", pkgPath := "", byteOffset := 0 }, { name := "D", type := 31, offset := 3, embedded := false, tag := "", pkgPath := "", byteOffset := 24 }, { name := "B", type := 32, offset := 4, embedded := false, tag := "", pkgPath := "", byteOffset := 32 }, { name := "Mine", type := 34, offset := 5, embedded := false, tag := "", pkgPath := "", byteOffset := 40 }, { name := "Has", type := 35, offset := 8, embedded := false, tag := "", pkgPath := "", byteOffset := 112 }, { name := "Down", type := 35, offset := 11, embedded := false, tag := "", pkgPath := "", byteOffset := 136 }, { name := "Docs", type := 36, offset := 14, embedded := false, tag := "", pkgPath := "", byteOffset := 160 }, { name := "Done", type := 37, offset := 15, embedded := false, tag := "", pkgPath := "", byteOffset := 184 }, { name := "Ends", type := 23, offset := 16, embedded := false, tag := "", pkgPath := "", byteOffset := 208 }, { name := "Revs", type := 23, offset := 17, embedded := false, tag := "", pkgPath := "", byteOffset := 232 }, { name := "Boots", type := 3, offset := 18, embedded := false, tag := "", pkgPath := "", byteOffset := 256 }], sz := 19, zv := Tryz.t39.zero, ty := .agg [.ptr, .ptr, .ptr, .ptr, .ptr, .slice, .slice, .slice, .int .i64, .int .i64, .int .i64, .int .i64, .int .i64, .int .i64, .slice, .slice, .slice, .slice, .int .i64], feq := none }
theorem R39_ok : RowOk Tryz.prog R39 := rowOk_plain Tryz.underlying39 (info_of Tryz.types_size (by kernel_rfl) Tryz.type39) rfl (.inr rfl) rfl
noncomputable def R40 : TRow := { t := 40, d := .int .i64, sz := 1, zv := Tryz.t40.zero, ty := .int .i64, feq := none }
theorem R40_ok : RowOk Tryz.prog R40 := rowOk_plain Tryz.underlying40 (info_of Tryz.types_size (by kernel_rfl) Tryz.type40) rfl (.inr rfl) rfl
noncomputable def R45 : TRow := { t := 45, d := .slice 63, sz := 1, zv := Tryz.t45.zero, ty := .slice, feq := none }
theorem R45_ok : RowOk Tryz.prog R45 := rowOk_plain Tryz.underlying45 (info_of Tryz.types_size (by kernel_rfl) Tryz.type45) rfl (.inr rfl) rfl
noncomputable def R49 : TRow := { t := 49, d := .slice 5, sz := 1, zv := Tryz.t49.zero, ty := .slice, feq := none }
theorem R49_ok : RowOk Tryz.prog R49 := rowOk_plain Tryz.underlying49 (info_of Tryz.types_size (by kernel_rfl) Tryz.type49) rfl (.inr rfl) rfl
noncomputable def R52 : TRow := { t := 52, d := .tuple #[3, 3], sz := 1, zv := Tryz.t52.zero, ty := .tup [.int .i64, .int .i64], feq := none }
theorem R52_ok : RowOk Tryz.prog R52 := rowOk_plain Tryz.underlying52 (info_of Tryz.types_size (by kernel_rfl) Tryz.type52) rfl (.inr rfl) rfl
noncomputable def R63 : TRow := { t := 63, d := .struct #[{ name := "Ch", type := 5, offset := 0, embedded := false, tag := "", pkgPath := "", byteOffset := 0 }, { name := "Client", type := 3, offset := 1, embedded := false, tag := "", pkgPath := "", byteOffset := 8 }, { name := "Seq", type := 3, offset := 2, embedded := false, tag := "", pkgPath := "", byteOffset := 16 }], sz := 3, zv := Tryz.t63.zero, ty := .agg [.int .u8, .int .i64, .int .i64], feq := some [4, 3, 3] }
theorem R63_ok : RowOk Tryz.prog R63 := rowOk_struct Tryz.underlying63 (info_of Tryz.types_size (by kernel_rfl) Tryz.type63) rfl (.inr rfl) rfl rfl Tryz.stoodInHeld63 Tryz.eqGuardType63 ⟨⟨(by decide), rfl, Tryz.underlying5⟩, ⟨(by decide), rfl, Tryz.underlying3⟩, ⟨(by decide), rfl, Tryz.underlying3⟩, trivial⟩
noncomputable def R65 : TRow := { t := 65, d := .tuple #[3, 40], sz := 1, zv := Tryz.t65.zero, ty := .tup [.int .i64, .int .i64], feq := none }
theorem R65_ok : RowOk Tryz.prog R65 := rowOk_plain Tryz.underlying65 (info_of Tryz.types_size (by kernel_rfl) Tryz.type65) rfl (.inr rfl) rfl
noncomputable def R72 : TRow := { t := 72, d := .struct #[{ name := "Plays", type := 22, offset := 0, embedded := false, tag := "", pkgPath := "", byteOffset := 0 }, { name := "A", type := 3, offset := 1, embedded := false, tag := "", pkgPath := "", byteOffset := 24 }, { name := "B", type := 3, offset := 2, embedded := false, tag := "", pkgPath := "", byteOffset := 32 }, { name := "C", type := 3, offset := 3, embedded := false, tag := "", pkgPath := "", byteOffset := 40 }], sz := 4, zv := Tryz.t72.zero, ty := .agg [.slice, .int .i64, .int .i64, .int .i64], feq := none }
theorem R72_ok : RowOk Tryz.prog R72 := rowOk_plain Tryz.underlying72 (info_of Tryz.types_size (by kernel_rfl) Tryz.type72) rfl (.inr rfl) rfl
noncomputable def R74 : TRow := { t := 74, d := .tuple #[37, 40], sz := 1, zv := Tryz.t74.zero, ty := .tup [.slice, .int .i64], feq := none }
theorem R74_ok : RowOk Tryz.prog R74 := rowOk_plain Tryz.underlying74 (info_of Tryz.types_size (by kernel_rfl) Tryz.type74) rfl (.inr rfl) rfl
noncomputable def R78 : TRow := { t := 78, d := .interface #[("Error", 334)], sz := 1, zv := Tryz.t78.zero, ty := .any, feq := none }
theorem R78_ok : RowOk Tryz.prog R78 := rowOk_plain Tryz.underlying78 (info_of Tryz.types_size (by kernel_rfl) Tryz.type78) rfl (.inr rfl) rfl
noncomputable def R79 : TRow := { t := 79, d := .tuple #[25, 78], sz := 1, zv := Tryz.t79.zero, ty := .tup [.ptr, .any], feq := none }
theorem R79_ok : RowOk Tryz.prog R79 := rowOk_plain Tryz.underlying79 (info_of Tryz.types_size (by kernel_rfl) Tryz.type79) rfl (.inr rfl) rfl
noncomputable def R84 : TRow := { t := 84, d := .struct #[{ name := "Kind", type := 3, offset := 0, embedded := false, tag := "", pkgPath := "", byteOffset := 0 }, { name := "Pos", type := 3, offset := 1, embedded := false, tag := "", pkgPath := "", byteOffset := 8 }, { name := "Ch", type := 5, offset := 2, embedded := false, tag := "", pkgPath := "", byteOffset := 16 }, { name := "Client", type := 3, offset := 3, embedded := false, tag := "", pkgPath := "", byteOffset := 24 }, { name := "Seq", type := 3, offset := 4, embedded := false, tag := "", pkgPath := "", byteOffset := 32 }], sz := 5, zv := Tryz.t84.zero, ty := .agg [.int .i64, .int .i64, .int .u8, .int .i64, .int .i64], feq := some [3, 3, 4, 3, 3] }
theorem R84_ok : RowOk Tryz.prog R84 := rowOk_struct Tryz.underlying84 (info_of Tryz.types_size (by kernel_rfl) Tryz.type84) rfl (.inr rfl) rfl rfl Tryz.stoodInHeld84 Tryz.eqGuardType84 ⟨⟨(by decide), rfl, Tryz.underlying3⟩, ⟨(by decide), rfl, Tryz.underlying3⟩, ⟨(by decide), rfl, Tryz.underlying5⟩, ⟨(by decide), rfl, Tryz.underlying3⟩, ⟨(by decide), rfl, Tryz.underlying3⟩, trivial⟩
noncomputable def R86 : TRow := { t := 86, d := .tuple #[24, 4], sz := 1, zv := Tryz.t86.zero, ty := .tup [.ptr, .bool], feq := none }
theorem R86_ok : RowOk Tryz.prog R86 := rowOk_plain Tryz.underlying86 (info_of Tryz.types_size (by kernel_rfl) Tryz.type86) rfl (.inr rfl) rfl
noncomputable def R90 : TRow := { t := 90, d := .struct #[{ name := "Kind", type := 3, offset := 0, embedded := false, tag := "", pkgPath := "", byteOffset := 0 }, { name := "Who", type := 3, offset := 1, embedded := false, tag := "", pkgPath := "", byteOffset := 8 }, { name := "At", type := 3, offset := 2, embedded := false, tag := "", pkgPath := "", byteOffset := 16 }, { name := "Ch", type := 3, offset := 3, embedded := false, tag := "", pkgPath := "", byteOffset := 24 }], sz := 4, zv := Tryz.t90.zero, ty := .agg [.int .i64, .int .i64, .int .i64, .int .i64], feq := some [3, 3, 3, 3] }
theorem R90_ok : RowOk Tryz.prog R90 := rowOk_struct Tryz.underlying90 (info_of Tryz.types_size (by kernel_rfl) Tryz.type90) rfl (.inr rfl) rfl rfl Tryz.stoodInHeld90 Tryz.eqGuardType90 ⟨⟨(by decide), rfl, Tryz.underlying3⟩, ⟨(by decide), rfl, Tryz.underlying3⟩, ⟨(by decide), rfl, Tryz.underlying3⟩, ⟨(by decide), rfl, Tryz.underlying3⟩, trivial⟩
noncomputable def R92 : TRow := { t := 92, d := .map 63 3, sz := 1, zv := Tryz.t92.zero, ty := .map, feq := none }
theorem R92_ok : RowOk Tryz.prog R92 := rowOk_plain Tryz.underlying92 (info_of Tryz.types_size (by kernel_rfl) Tryz.type92) rfl (.inr rfl) rfl
noncomputable def R94 : TRow := { t := 94, d := .struct #[{ name := "book", type := 32, offset := 0, embedded := false, tag := "", pkgPath := "jotter/revision", byteOffset := 0 }, { name := "born", type := 92, offset := 1, embedded := false, tag := "", pkgPath := "jotter/revision", byteOffset := 8 }, { name := "died", type := 92, offset := 2, embedded := false, tag := "", pkgPath := "jotter/revision", byteOffset := 16 }], sz := 3, zv := Tryz.t94.zero, ty := .agg [.ptr, .map, .map], feq := none }
theorem R94_ok : RowOk Tryz.prog R94 := rowOk_plain Tryz.underlying94 (info_of Tryz.types_size (by kernel_rfl) Tryz.type94) rfl (.inr rfl) rfl
noncomputable def R95 : TRow := { t := 95, d := .tuple #[45, 40], sz := 1, zv := Tryz.t95.zero, ty := .tup [.slice, .int .i64], feq := none }
theorem R95_ok : RowOk Tryz.prog R95 := rowOk_plain Tryz.underlying95 (info_of Tryz.types_size (by kernel_rfl) Tryz.type95) rfl (.inr rfl) rfl
noncomputable def R98 : TRow := { t := 98, d := .struct #[{ name := "bytes", type := 49, offset := 0, embedded := false, tag := "", pkgPath := "jotter/disk", byteOffset := 0 }, { name := "synced", type := 3, offset := 1, embedded := false, tag := "", pkgPath := "jotter/disk", byteOffset := 24 }], sz := 2, zv := Tryz.t98.zero, ty := .agg [.slice, .int .i64], feq := none }
theorem R98_ok : RowOk Tryz.prog R98 := rowOk_plain Tryz.underlying98 (info_of Tryz.types_size (by kernel_rfl) Tryz.type98) rfl (.inr rfl) rfl
noncomputable def R99 : TRow := { t := 99, d := .tuple #[84, 40], sz := 1, zv := Tryz.t99.zero, ty := .tup [.agg [.int .i64, .int .i64, .int .u8, .int .i64, .int .i64], .int .i64], feq := none }
theorem R99_ok : RowOk Tryz.prog R99 := rowOk_plain Tryz.underlying99 (info_of Tryz.types_size (by kernel_rfl) Tryz.type99) rfl (.inr rfl) rfl
noncomputable def R102 : TRow := { t := 102, d := .tuple #[45, 4], sz := 1, zv := Tryz.t102.zero, ty := .tup [.slice, .bool], feq := none }
theorem R102_ok : RowOk Tryz.prog R102 := rowOk_plain Tryz.underlying102 (info_of Tryz.types_size (by kernel_rfl) Tryz.type102) rfl (.inr rfl) rfl
noncomputable def R111 : TRow := { t := 111, d := .tuple #[31, 40], sz := 1, zv := Tryz.t111.zero, ty := .tup [.ptr, .int .i64], feq := none }
theorem R111_ok : RowOk Tryz.prog R111 := rowOk_plain Tryz.underlying111 (info_of Tryz.types_size (by kernel_rfl) Tryz.type111) rfl (.inr rfl) rfl
noncomputable def R114 : TRow := { t := 114, d := .tuple #[32, 78], sz := 1, zv := Tryz.t114.zero, ty := .tup [.ptr, .any], feq := none }
theorem R114_ok : RowOk Tryz.prog R114 := rowOk_plain Tryz.underlying114 (info_of Tryz.types_size (by kernel_rfl) Tryz.type114) rfl (.inr rfl) rfl
noncomputable def R118 : TRow := { t := 118, d := .tuple #[29, 4], sz := 1, zv := Tryz.t118.zero, ty := .tup [.ptr, .bool], feq := none }
theorem R118_ok : RowOk Tryz.prog R118 := rowOk_plain Tryz.underlying118 (info_of Tryz.types_size (by kernel_rfl) Tryz.type118) rfl (.inr rfl) rfl
noncomputable def R124 : TRow := { t := 124, d := .struct #[{ name := "Tag", type := 3, offset := 0, embedded := false, tag := "", pkgPath := "", byteOffset := 0 }, { name := "Op", type := 84, offset := 1, embedded := false, tag := "", pkgPath := "", byteOffset := 8 }], sz := 6, zv := Tryz.t124.zero, ty := .agg [.int .i64, .int .i64, .int .i64, .int .u8, .int .i64, .int .i64], feq := none }
theorem R124_ok : RowOk Tryz.prog R124 := rowOk_plain Tryz.underlying124 (info_of Tryz.types_size (by kernel_rfl) Tryz.type124) rfl (.inr rfl) rfl
noncomputable def R125 : TRow := { t := 125, d := .tuple #[3, 84, 40], sz := 1, zv := Tryz.t125.zero, ty := .tup [.int .i64, .agg [.int .i64, .int .i64, .int .u8, .int .i64, .int .i64], .int .i64], feq := none }
theorem R125_ok : RowOk Tryz.prog R125 := rowOk_plain Tryz.underlying125 (info_of Tryz.types_size (by kernel_rfl) Tryz.type125) rfl (.inr rfl) rfl
noncomputable def R127 : TRow := { t := 127, d := .pointer 171, sz := 1, zv := Tryz.t127.zero, ty := .ptr, feq := none }
theorem R127_ok : RowOk Tryz.prog R127 := rowOk_plain Tryz.underlying127 (info_of Tryz.types_size (by kernel_rfl) Tryz.type127) rfl (.inr rfl) rfl
noncomputable def R128 : TRow := { t := 128, d := .map 217 3, sz := 1, zv := Tryz.t128.zero, ty := .map, feq := none }
theorem R128_ok : RowOk Tryz.prog R128 := rowOk_plain Tryz.underlying128 (info_of Tryz.types_size (by kernel_rfl) Tryz.type128) rfl (.inr rfl) rfl
noncomputable def R129 : TRow := { t := 129, d := .slice 176, sz := 1, zv := Tryz.t129.zero, ty := .slice, feq := none }
theorem R129_ok : RowOk Tryz.prog R129 := rowOk_plain Tryz.underlying129 (info_of Tryz.types_size (by kernel_rfl) Tryz.type129) rfl (.inr rfl) rfl
noncomputable def R131 : TRow := { t := 131, d := .struct #[{ name := "log", type := 127, offset := 0, embedded := false, tag := "", pkgPath := "jotter/book", byteOffset := 0 }, { name := "epoch", type := 3, offset := 1, embedded := false, tag := "", pkgPath := "jotter/book", byteOffset := 8 }, { name := "edited", type := 23, offset := 2, embedded := false, tag := "", pkgPath := "jotter/book", byteOffset := 16 }, { name := "edits", type := 33, offset := 3, embedded := false, tag := "", pkgPath := "jotter/book", byteOffset := 40 }, { name := "done", type := 37, offset := 4, embedded := false, tag := "", pkgPath := "jotter/book", byteOffset := 64 }, { name := "length", type := 3, offset := 5, embedded := false, tag := "", pkgPath := "jotter/book", byteOffset := 88 }, { name := "revs", type := 128, offset := 6, embedded := false, tag := "", pkgPath := "jotter/book", byteOffset := 96 }, { name := "hands", type := 129, offset := 7, embedded := false, tag := "", pkgPath := "jotter/book", byteOffset := 104 }], sz := 8, zv := Tryz.t131.zero, ty := .agg [.ptr, .int .i64, .slice, .slice, .slice, .int .i64, .map, .slice], feq := none }
theorem R131_ok : RowOk Tryz.prog R131 := rowOk_plain Tryz.underlying131 (info_of Tryz.types_size (by kernel_rfl) Tryz.type131) rfl (.inr rfl) rfl
noncomputable def R134 : TRow := { t := 134, d := .pointer 136, sz := 1, zv := Tryz.t134.zero, ty := .ptr, feq := none }
theorem R134_ok : RowOk Tryz.prog R134 := rowOk_plain Tryz.underlying134 (info_of Tryz.types_size (by kernel_rfl) Tryz.type134) rfl (.inr rfl) rfl
noncomputable def R136 : TRow := { t := 136, d := .struct #[{ name := "At", type := 3, offset := 0, embedded := false, tag := "", pkgPath := "", byteOffset := 0 }, { name := "Err", type := 78, offset := 1, embedded := false, tag := "", pkgPath := "", byteOffset := 8 }], sz := 2, zv := Tryz.t136.zero, ty := .agg [.int .i64, .any], feq := none }
theorem R136_ok : RowOk Tryz.prog R136 := rowOk_plain Tryz.underlying136 (info_of Tryz.types_size (by kernel_rfl) Tryz.type136) rfl (.inr rfl) rfl
noncomputable def R137 : TRow := { t := 137, d := .tuple #[127, 78], sz := 1, zv := Tryz.t137.zero, ty := .tup [.ptr, .any], feq := none }
theorem R137_ok : RowOk Tryz.prog R137 := rowOk_plain Tryz.underlying137 (info_of Tryz.types_size (by kernel_rfl) Tryz.type137) rfl (.inr rfl) rfl
noncomputable def R140 : TRow := { t := 140, d := .tuple #[3, 78], sz := 1, zv := Tryz.t140.zero, ty := .tup [.int .i64, .any], feq := none }
theorem R140_ok : RowOk Tryz.prog R140 := rowOk_plain Tryz.underlying140 (info_of Tryz.types_size (by kernel_rfl) Tryz.type140) rfl (.inr rfl) rfl
noncomputable def R142 : TRow := { t := 142, d := .slice 49, sz := 1, zv := Tryz.t142.zero, ty := .slice, feq := none }
theorem R142_ok : RowOk Tryz.prog R142 := rowOk_plain Tryz.underlying142 (info_of Tryz.types_size (by kernel_rfl) Tryz.type142) rfl (.inr rfl) rfl
noncomputable def R146 : TRow := { t := 146, d := .tuple #[29, 40], sz := 1, zv := Tryz.t146.zero, ty := .tup [.ptr, .int .i64], feq := none }
theorem R146_ok : RowOk Tryz.prog R146 := rowOk_plain Tryz.underlying146 (info_of Tryz.types_size (by kernel_rfl) Tryz.type146) rfl (.inr rfl) rfl
noncomputable def R150 : TRow := { t := 150, d := .struct #[{ name := "Kind", type := 3, offset := 0, embedded := false, tag := "", pkgPath := "", byteOffset := 0 }, { name := "Epoch", type := 3, offset := 1, embedded := false, tag := "", pkgPath := "", byteOffset := 8 }, { name := "Client", type := 3, offset := 2, embedded := false, tag := "", pkgPath := "", byteOffset := 16 }, { name := "Have", type := 3, offset := 3, embedded := false, tag := "", pkgPath := "", byteOffset := 24 }, { name := "First", type := 3, offset := 4, embedded := false, tag := "", pkgPath := "", byteOffset := 32 }, { name := "Num", type := 3, offset := 5, embedded := false, tag := "", pkgPath := "", byteOffset := 40 }, { name := "Ack", type := 3, offset := 6, embedded := false, tag := "", pkgPath := "", byteOffset := 48 }, { name := "Rev", type := 3, offset := 7, embedded := false, tag := "", pkgPath := "", byteOffset := 56 }, { name := "Tag", type := 3, offset := 8, embedded := false, tag := "", pkgPath := "", byteOffset := 64 }, { name := "Op", type := 84, offset := 9, embedded := false, tag := "", pkgPath := "", byteOffset := 72 }], sz := 14, zv := Tryz.t150.zero, ty := .agg [.int .i64, .int .i64, .int .i64, .int .i64, .int .i64, .int .i64, .int .i64, .int .i64, .int .i64, .int .i64, .int .i64, .int .u8, .int .i64, .int .i64], feq := none }
theorem R150_ok : RowOk Tryz.prog R150 := rowOk_plain Tryz.underlying150 (info_of Tryz.types_size (by kernel_rfl) Tryz.type150) rfl (.inr rfl) rfl
noncomputable def R151 : TRow := { t := 151, d := .tuple #[49, 78], sz := 1, zv := Tryz.t151.zero, ty := .tup [.slice, .any], feq := none }
theorem R151_ok : RowOk Tryz.prog R151 := rowOk_plain Tryz.underlying151 (info_of Tryz.types_size (by kernel_rfl) Tryz.type151) rfl (.inr rfl) rfl
noncomputable def R154 : TRow := { t := 154, d := .struct #[{ name := "Kind", type := 3, offset := 0, embedded := false, tag := "", pkgPath := "", byteOffset := 0 }, { name := "Epoch", type := 3, offset := 1, embedded := false, tag := "", pkgPath := "", byteOffset := 8 }, { name := "Tag", type := 3, offset := 2, embedded := false, tag := "", pkgPath := "", byteOffset := 16 }, { name := "Op", type := 84, offset := 3, embedded := false, tag := "", pkgPath := "", byteOffset := 24 }], sz := 8, zv := Tryz.t154.zero, ty := .agg [.int .i64, .int .i64, .int .i64, .int .i64, .int .i64, .int .u8, .int .i64, .int .i64], feq := none }
theorem R154_ok : RowOk Tryz.prog R154 := rowOk_plain Tryz.underlying154 (info_of Tryz.types_size (by kernel_rfl) Tryz.type154) rfl (.inr rfl) rfl
noncomputable def R158 : TRow := { t := 158, d := .tuple #[124, 40], sz := 1, zv := Tryz.t158.zero, ty := .tup [.agg [.int .i64, .int .i64, .int .i64, .int .u8, .int .i64, .int .i64], .int .i64], feq := none }
theorem R158_ok : RowOk Tryz.prog R158 := rowOk_plain Tryz.underlying158 (info_of Tryz.types_size (by kernel_rfl) Tryz.type158) rfl (.inr rfl) rfl
noncomputable def R163 : TRow := { t := 163, d := .tuple #[45, 3, 40], sz := 1, zv := Tryz.t163.zero, ty := .tup [.slice, .int .i64, .int .i64], feq := none }
theorem R163_ok : RowOk Tryz.prog R163 := rowOk_plain Tryz.underlying163 (info_of Tryz.types_size (by kernel_rfl) Tryz.type163) rfl (.inr rfl) rfl
noncomputable def R168 : TRow := { t := 168, d := .tuple #[142, 3, 78], sz := 1, zv := Tryz.t168.zero, ty := .tup [.slice, .int .i64, .any], feq := none }
theorem R168_ok : RowOk Tryz.prog R168 := rowOk_plain Tryz.underlying168 (info_of Tryz.types_size (by kernel_rfl) Tryz.type168) rfl (.inr rfl) rfl
noncomputable def R171 : TRow := { t := 171, d := .struct #[{ name := "d", type := 31, offset := 0, embedded := false, tag := "", pkgPath := "jotter/wal", byteOffset := 0 }, { name := "list", type := 142, offset := 1, embedded := false, tag := "", pkgPath := "jotter/wal", byteOffset := 8 }, { name := "ends", type := 23, offset := 2, embedded := false, tag := "", pkgPath := "jotter/wal", byteOffset := 32 }], sz := 3, zv := Tryz.t171.zero, ty := .agg [.ptr, .slice, .slice], feq := none }
theorem R171_ok : RowOk Tryz.prog R171 := rowOk_plain Tryz.underlying171 (info_of Tryz.types_size (by kernel_rfl) Tryz.type171) rfl (.inr rfl) rfl
noncomputable def R174 : TRow := { t := 174, d := .pointer 134, sz := 1, zv := Tryz.t174.zero, ty := .ptr, feq := none }
theorem R174_ok : RowOk Tryz.prog R174 := rowOk_plain Tryz.underlying174 (info_of Tryz.types_size (by kernel_rfl) Tryz.type174) rfl (.inr rfl) rfl
noncomputable def R176 : TRow := { t := 176, d := .pointer 180, sz := 1, zv := Tryz.t176.zero, ty := .ptr, feq := none }
theorem R176_ok : RowOk Tryz.prog R176 := rowOk_plain Tryz.underlying176 (info_of Tryz.types_size (by kernel_rfl) Tryz.type176) rfl (.inr rfl) rfl
noncomputable def R177 : TRow := { t := 177, d := .pointer 223, sz := 1, zv := Tryz.t177.zero, ty := .ptr, feq := none }
theorem R177_ok : RowOk Tryz.prog R177 := rowOk_plain Tryz.underlying177 (info_of Tryz.types_size (by kernel_rfl) Tryz.type177) rfl (.inr rfl) rfl
noncomputable def R180 : TRow := { t := 180, d := .struct #[{ name := "seq", type := 3, offset := 0, embedded := false, tag := "", pkgPath := "jotter/book", byteOffset := 0 }, { name := "tag", type := 3, offset := 1, embedded := false, tag := "", pkgPath := "jotter/book", byteOffset := 8 }, { name := "queue", type := 177, offset := 2, embedded := false, tag := "", pkgPath := "jotter/book", byteOffset := 16 }], sz := 3, zv := Tryz.t180.zero, ty := .agg [.int .i64, .int .i64, .ptr], feq := none }
theorem R180_ok : RowOk Tryz.prog R180 := rowOk_plain Tryz.underlying180 (info_of Tryz.types_size (by kernel_rfl) Tryz.type180) rfl (.inr rfl) rfl
noncomputable def R182 : TRow := { t := 182, d := .struct #[{ name := "at", type := 3, offset := 0, embedded := false, tag := "", pkgPath := "jotter/book", byteOffset := 0 }, { name := "why", type := 78, offset := 1, embedded := false, tag := "", pkgPath := "jotter/book", byteOffset := 8 }], sz := 2, zv := Tryz.t182.zero, ty := .agg [.int .i64, .any], feq := none }
theorem R182_ok : RowOk Tryz.prog R182 := rowOk_plain Tryz.underlying182 (info_of Tryz.types_size (by kernel_rfl) Tryz.type182) rfl (.inr rfl) rfl
noncomputable def R185 : TRow := { t := 185, d := .pointer 261, sz := 1, zv := Tryz.t185.zero, ty := .ptr, feq := none }
theorem R185_ok : RowOk Tryz.prog R185 := rowOk_plain Tryz.underlying185 (info_of Tryz.types_size (by kernel_rfl) Tryz.type185) rfl (.inr rfl) rfl
noncomputable def R186 : TRow := { t := 186, d := .tuple #[185, 40], sz := 1, zv := Tryz.t186.zero, ty := .tup [.ptr, .int .i64], feq := none }
theorem R186_ok : RowOk Tryz.prog R186 := rowOk_plain Tryz.underlying186 (info_of Tryz.types_size (by kernel_rfl) Tryz.type186) rfl (.inr rfl) rfl
noncomputable def R188 : TRow := { t := 188, d := .pointer 264, sz := 1, zv := Tryz.t188.zero, ty := .ptr, feq := none }
theorem R188_ok : RowOk Tryz.prog R188 := rowOk_plain Tryz.underlying188 (info_of Tryz.types_size (by kernel_rfl) Tryz.type188) rfl (.inr rfl) rfl
noncomputable def R189 : TRow := { t := 189, d := .tuple #[188, 40], sz := 1, zv := Tryz.t189.zero, ty := .tup [.ptr, .int .i64], feq := none }
theorem R189_ok : RowOk Tryz.prog R189 := rowOk_plain Tryz.underlying189 (info_of Tryz.types_size (by kernel_rfl) Tryz.type189) rfl (.inr rfl) rfl
noncomputable def R192 : TRow := { t := 192, d := .struct #[{ name := "Outbox", type := 185, offset := 0, embedded := true, tag := "", pkgPath := "", byteOffset := 0 }, { name := "Inbox", type := 188, offset := 1, embedded := true, tag := "", pkgPath := "", byteOffset := 8 }], sz := 2, zv := Tryz.t192.zero, ty := .agg [.ptr, .ptr], feq := none }
theorem R192_ok : RowOk Tryz.prog R192 := rowOk_plain Tryz.underlying192 (info_of Tryz.types_size (by kernel_rfl) Tryz.type192) rfl (.inr rfl) rfl
noncomputable def R194 : TRow := { t := 194, d := .struct #[], sz := 0, zv := Tryz.t194.zero, ty := .agg [], feq := some [] }
theorem R194_ok : RowOk Tryz.prog R194 := rowOk_struct Tryz.underlying194 (info_of Tryz.types_size (by kernel_rfl) Tryz.type194) rfl (.inr rfl) rfl rfl Tryz.stoodInHeld194 Tryz.eqGuardType194 trivial
noncomputable def R196 : TRow := { t := 196, d := .interface #[("jotter/client.messages", 348), ("jotter/client.open", 253)], sz := 1, zv := Tryz.t196.zero, ty := .any, feq := none }
theorem R196_ok : RowOk Tryz.prog R196 := rowOk_plain Tryz.underlying196 (info_of Tryz.types_size (by kernel_rfl) Tryz.type196) rfl (.inr rfl) rfl
noncomputable def R197 : TRow := { t := 197, d := .array 65 3, sz := 65, zv := Tryz.t197.zero, ty := .agg [.int .i64, .int .i64, .int .i64, .int .i64, .int .i64, .int .i64, .int .i64, .int .i64, .int .i64, .int .i64, .int .i64, .int .i64, .int .i64, .int .i64, .int .i64, .int .i64, .int .i64, .int .i64, .int .i64, .int .i64, .int .i64, .int .i64, .int .i64, .int .i64, .int .i64, .int .i64, .int .i64, .int .i64, .int .i64, .int .i64, .int .i64, .int .i64, .int .i64, .int .i64, .int .i64, .int .i64, .int .i64, .int .i64, .int .i64, .int .i64, .int .i64, .int .i64, .int .i64, .int .i64, .int .i64, .int .i64, .int .i64, .int .i64, .int .i64, .int .i64, .int .i64, .int .i64, .int .i64, .int .i64, .int .i64, .int .i64, .int .i64, .int .i64, .int .i64, .int .i64, .int .i64, .int .i64, .int .i64, .int .i64, .int .i64], feq := none }
theorem R197_ok : RowOk Tryz.prog R197 := rowOk_plain Tryz.underlying197 (info_of Tryz.types_size (by kernel_rfl) Tryz.type197) rfl (.inr rfl) rfl
noncomputable def R199 : TRow := { t := 199, d := .struct #[{ name := "link", type := 192, offset := 0, embedded := true, tag := "", pkgPath := "jotter/client", byteOffset := 0 }, { name := "phase", type := 196, offset := 2, embedded := true, tag := "", pkgPath := "jotter/client", byteOffset := 16 }, { name := "id", type := 3, offset := 3, embedded := false, tag := "", pkgPath := "jotter/client", byteOffset := 32 }, { name := "epoch", type := 3, offset := 4, embedded := false, tag := "", pkgPath := "jotter/client", byteOffset := 40 }, { name := "made", type := 3, offset := 5, embedded := false, tag := "", pkgPath := "jotter/client", byteOffset := 48 }, { name := "have", type := 3, offset := 6, embedded := false, tag := "", pkgPath := "jotter/client", byteOffset := 56 }, { name := "base", type := 3, offset := 7, embedded := false, tag := "", pkgPath := "jotter/client", byteOffset := 64 }, { name := "text", type := 45, offset := 8, embedded := false, tag := "", pkgPath := "jotter/client", byteOffset := 72 }, { name := "pending", type := 33, offset := 9, embedded := false, tag := "", pkgPath := "jotter/client", byteOffset := 96 }, { name := "forms", type := 177, offset := 10, embedded := false, tag := "", pkgPath := "jotter/client", byteOffset := 120 }, { name := "last", type := 197, offset := 11, embedded := false, tag := "", pkgPath := "jotter/client", byteOffset := 128 }], sz := 76, zv := Tryz.t199.zero, ty := .agg [.ptr, .ptr, .any, .int .i64, .int .i64, .int .i64, .int .i64, .int .i64, .slice, .slice, .ptr, .int .i64, .int .i64, .int .i64, .int .i64, .int .i64, .int .i64, .int .i64, .int .i64, .int .i64, .int .i64, .int .i64, .int .i64, .int .i64, .int .i64, .int .i64, .int .i64, .int .i64, .int .i64, .int .i64, .int .i64, .int .i64, .int .i64, .int .i64, .int .i64, .int .i64, .int .i64, .int .i64, .int .i64, .int .i64, .int .i64, .int .i64, .int .i64, .int .i64, .int .i64, .int .i64, .int .i64, .int .i64, .int .i64, .int .i64, .int .i64, .int .i64, .int .i64, .int .i64, .int .i64, .int .i64, .int .i64, .int .i64, .int .i64, .int .i64, .int .i64, .int .i64, .int .i64, .int .i64, .int .i64, .int .i64, .int .i64, .int .i64, .int .i64, .int .i64, .int .i64, .int .i64, .int .i64, .int .i64, .int .i64, .int .i64], feq := none }
theorem R199_ok : RowOk Tryz.prog R199 := rowOk_plain Tryz.underlying199 (info_of Tryz.types_size (by kernel_rfl) Tryz.type199) rfl (.inr rfl) rfl
noncomputable def R201 : TRow := { t := 201, d := .array 14 3, sz := 14, zv := Tryz.t201.zero, ty := .agg [.int .i64, .int .i64, .int .i64, .int .i64, .int .i64, .int .i64, .int .i64, .int .i64, .int .i64, .int .i64, .int .i64, .int .i64, .int .i64, .int .i64], feq := none }
theorem R201_ok : RowOk Tryz.prog R201 := rowOk_plain Tryz.underlying201 (info_of Tryz.types_size (by kernel_rfl) Tryz.type201) rfl (.inr rfl) rfl
noncomputable def R202 : TRow := { t := 202, d := .array 14 3, sz := 14, zv := Tryz.t202.zero, ty := .agg [.int .i64, .int .i64, .int .i64, .int .i64, .int .i64, .int .i64, .int .i64, .int .i64, .int .i64, .int .i64, .int .i64, .int .i64, .int .i64, .int .i64], feq := none }
theorem R202_ok : RowOk Tryz.prog R202 := rowOk_plain Tryz.underlying202 (info_of Tryz.types_size (by kernel_rfl) Tryz.type202) rfl (.inr rfl) rfl
noncomputable def R204 : TRow := { t := 204, d := .array 3 23, sz := 3, zv := Tryz.t204.zero, ty := .agg [.slice, .slice, .slice], feq := none }
theorem R204_ok : RowOk Tryz.prog R204 := rowOk_plain Tryz.underlying204 (info_of Tryz.types_size (by kernel_rfl) Tryz.type204) rfl (.inr rfl) rfl
noncomputable def R205 : TRow := { t := 205, d := .array 7 3, sz := 7, zv := Tryz.t205.zero, ty := .agg [.int .i64, .int .i64, .int .i64, .int .i64, .int .i64, .int .i64, .int .i64], feq := none }
theorem R205_ok : RowOk Tryz.prog R205 := rowOk_plain Tryz.underlying205 (info_of Tryz.types_size (by kernel_rfl) Tryz.type205) rfl (.inr rfl) rfl
noncomputable def R215 : TRow := { t := 215, d := .tuple #[3, 4], sz := 1, zv := Tryz.t215.zero, ty := .tup [.int .i64, .bool], feq := none }
theorem R215_ok : RowOk Tryz.prog R215 := rowOk_plain Tryz.underlying215 (info_of Tryz.types_size (by kernel_rfl) Tryz.type215) rfl (.inr rfl) rfl
noncomputable def R217 : TRow := { t := 217, d := .struct #[{ name := "client", type := 3, offset := 0, embedded := false, tag := "", pkgPath := "jotter/book", byteOffset := 0 }, { name := "seq", type := 3, offset := 1, embedded := false, tag := "", pkgPath := "jotter/book", byteOffset := 8 }], sz := 2, zv := Tryz.t217.zero, ty := .agg [.int .i64, .int .i64], feq := some [3, 3] }
theorem R217_ok : RowOk Tryz.prog R217 := rowOk_struct Tryz.underlying217 (info_of Tryz.types_size (by kernel_rfl) Tryz.type217) rfl (.inr rfl) rfl rfl Tryz.stoodInHeld217 Tryz.eqGuardType217 ⟨⟨(by decide), rfl, Tryz.underlying3⟩, ⟨(by decide), rfl, Tryz.underlying3⟩, trivial⟩
noncomputable def R218 : TRow := { t := 218, d := .slice 225, sz := 1, zv := Tryz.t218.zero, ty := .slice, feq := none }
theorem R218_ok : RowOk Tryz.prog R218 := rowOk_plain Tryz.underlying218 (info_of Tryz.types_size (by kernel_rfl) Tryz.type218) rfl (.inr rfl) rfl
noncomputable def R221 : TRow := { t := 221, d := .struct #[{ name := "list", type := 218, offset := 0, embedded := false, tag := "", pkgPath := "jotter/space", byteOffset := 0 }, { name := "last", type := 3, offset := 1, embedded := false, tag := "", pkgPath := "jotter/space", byteOffset := 24 }], sz := 2, zv := Tryz.t221.zero, ty := .agg [.slice, .int .i64], feq := none }
theorem R221_ok : RowOk Tryz.prog R221 := rowOk_plain Tryz.underlying221 (info_of Tryz.types_size (by kernel_rfl) Tryz.type221) rfl (.inr rfl) rfl
noncomputable def R223 : TRow := { t := 223, d := .struct #[{ name := "queue", type := 221, offset := 0, embedded := true, tag := "", pkgPath := "jotter/space", byteOffset := 0 }, { name := "first", type := 4, offset := 2, embedded := false, tag := "", pkgPath := "jotter/space", byteOffset := 32 }], sz := 3, zv := Tryz.t223.zero, ty := .agg [.slice, .int .i64, .bool], feq := none }
theorem R223_ok : RowOk Tryz.prog R223 := rowOk_plain Tryz.underlying223 (info_of Tryz.types_size (by kernel_rfl) Tryz.type223) rfl (.inr rfl) rfl
noncomputable def R225 : TRow := { t := 225, d := .struct #[{ name := "Mark", type := 3, offset := 0, embedded := false, tag := "", pkgPath := "", byteOffset := 0 }, { name := "Op", type := 84, offset := 1, embedded := false, tag := "", pkgPath := "", byteOffset := 8 }], sz := 6, zv := Tryz.t225.zero, ty := .agg [.int .i64, .int .i64, .int .i64, .int .u8, .int .i64, .int .i64], feq := none }
theorem R225_ok : RowOk Tryz.prog R225 := rowOk_plain Tryz.underlying225 (info_of Tryz.types_size (by kernel_rfl) Tryz.type225) rfl (.inr rfl) rfl
noncomputable def R239 : TRow := { t := 239, d := .int .u32, sz := 1, zv := Tryz.t239.zero, ty := .int .u32, feq := none }
theorem R239_ok : RowOk Tryz.prog R239 := rowOk_plain Tryz.underlying239 (info_of Tryz.types_size (by kernel_rfl) Tryz.type239) rfl (.inr rfl) rfl
noncomputable def R241 : TRow := { t := 241, d := .int .u64, sz := 1, zv := Tryz.t241.zero, ty := .int .u64, feq := none }
theorem R241_ok : RowOk Tryz.prog R241 := rowOk_plain Tryz.underlying241 (info_of Tryz.types_size (by kernel_rfl) Tryz.type241) rfl (.inr rfl) rfl
noncomputable def R246 : TRow := { t := 246, d := .struct #[{ name := "typ_", type := 17, offset := 0, embedded := false, tag := "", pkgPath := "internal/reflectlite", byteOffset := 0 }, { name := "ptr", type := 243, offset := 1, embedded := false, tag := "", pkgPath := "internal/reflectlite", byteOffset := 8 }, { name := "flag", type := 244, offset := 2, embedded := true, tag := "", pkgPath := "internal/reflectlite", byteOffset := 16 }], sz := 3, zv := Tryz.t246.zero, ty := .agg [.ptr, .any, .int .u64], feq := none }
theorem R246_ok : RowOk Tryz.prog R246 := rowOk_plain Tryz.underlying246 (info_of Tryz.types_size (by kernel_rfl) Tryz.type246) rfl (.inr rfl) rfl
noncomputable def R249 : TRow := { t := 249, d := .interface #[("AssignableTo", 254), ("Comparable", 253), ("Elem", 250), ("Implements", 254), ("Kind", 252), ("Name", 334), ("PkgPath", 334), ("Size", 349), ("String", 334), ("internal/reflectlite.common", 340), ("internal/reflectlite.uncommon", 350)], sz := 1, zv := Tryz.t249.zero, ty := .any, feq := none }
theorem R249_ok : RowOk Tryz.prog R249 := rowOk_plain Tryz.underlying249 (info_of Tryz.types_size (by kernel_rfl) Tryz.type249) rfl (.inr rfl) rfl
noncomputable def R251 : TRow := { t := 251, d := .int .u8, sz := 1, zv := Tryz.t251.zero, ty := .int .u8, feq := none }
theorem R251_ok : RowOk Tryz.prog R251 := rowOk_plain Tryz.underlying251 (info_of Tryz.types_size (by kernel_rfl) Tryz.type251) rfl (.inr rfl) rfl
noncomputable def R256 : TRow := { t := 256, d := .tuple #[154, 78], sz := 1, zv := Tryz.t256.zero, ty := .tup [.agg [.int .i64, .int .i64, .int .i64, .int .i64, .int .i64, .int .u8, .int .i64, .int .i64], .any], feq := none }
theorem R256_ok : RowOk Tryz.prog R256 := rowOk_plain Tryz.underlying256 (info_of Tryz.types_size (by kernel_rfl) Tryz.type256) rfl (.inr rfl) rfl
noncomputable def R261 : TRow := { t := 261, d := .struct #[{ name := "window", type := 3, offset := 0, embedded := false, tag := "", pkgPath := "jotter/outbox", byteOffset := 0 }, { name := "acked", type := 3, offset := 1, embedded := false, tag := "", pkgPath := "jotter/outbox", byteOffset := 8 }, { name := "sent", type := 3, offset := 2, embedded := false, tag := "", pkgPath := "jotter/outbox", byteOffset := 16 }, { name := "left", type := 33, offset := 3, embedded := false, tag := "", pkgPath := "jotter/outbox", byteOffset := 24 }], sz := 4, zv := Tryz.t261.zero, ty := .agg [.int .i64, .int .i64, .int .i64, .slice], feq := none }
theorem R261_ok : RowOk Tryz.prog R261 := rowOk_plain Tryz.underlying261 (info_of Tryz.types_size (by kernel_rfl) Tryz.type261) rfl (.inr rfl) rfl
noncomputable def R262 : TRow := { t := 262, d := .map 3 84, sz := 1, zv := Tryz.t262.zero, ty := .map, feq := none }
theorem R262_ok : RowOk Tryz.prog R262 := rowOk_plain Tryz.underlying262 (info_of Tryz.types_size (by kernel_rfl) Tryz.type262) rfl (.inr rfl) rfl
noncomputable def R264 : TRow := { t := 264, d := .struct #[{ name := "reorder", type := 3, offset := 0, embedded := false, tag := "", pkgPath := "jotter/inbox", byteOffset := 0 }, { name := "cum", type := 3, offset := 1, embedded := false, tag := "", pkgPath := "jotter/inbox", byteOffset := 8 }, { name := "held", type := 262, offset := 2, embedded := false, tag := "", pkgPath := "jotter/inbox", byteOffset := 16 }], sz := 3, zv := Tryz.t264.zero, ty := .agg [.int .i64, .int .i64, .map], feq := none }
theorem R264_ok : RowOk Tryz.prog R264 := rowOk_plain Tryz.underlying264 (info_of Tryz.types_size (by kernel_rfl) Tryz.type264) rfl (.inr rfl) rfl
noncomputable def R265 : TRow := { t := 265, d := .array 7 23, sz := 7, zv := Tryz.t265.zero, ty := .agg [.slice, .slice, .slice, .slice, .slice, .slice, .slice], feq := none }
theorem R265_ok : RowOk Tryz.prog R265 := rowOk_plain Tryz.underlying265 (info_of Tryz.types_size (by kernel_rfl) Tryz.type265) rfl (.inr rfl) rfl
noncomputable def R266 : TRow := { t := 266, d := .tuple #[150, 78], sz := 1, zv := Tryz.t266.zero, ty := .tup [.agg [.int .i64, .int .i64, .int .i64, .int .i64, .int .i64, .int .i64, .int .i64, .int .i64, .int .i64, .int .i64, .int .i64, .int .u8, .int .i64, .int .i64], .any], feq := none }
theorem R266_ok : RowOk Tryz.prog R266 := rowOk_plain Tryz.underlying266 (info_of Tryz.types_size (by kernel_rfl) Tryz.type266) rfl (.inr rfl) rfl
noncomputable def R270 : TRow := { t := 270, d := .struct #[], sz := 0, zv := Tryz.t270.zero, ty := .agg [], feq := some [] }
theorem R270_ok : RowOk Tryz.prog R270 := rowOk_struct Tryz.underlying270 (info_of Tryz.types_size (by kernel_rfl) Tryz.type270) rfl (.inr rfl) rfl rfl Tryz.stoodInHeld270 Tryz.eqGuardType270 trivial
noncomputable def R272 : TRow := { t := 272, d := descOf Tryz.prog 272, sz := 1, zv := Tryz.t272.zero, ty := .any, feq := none }
theorem R272_ok : RowOk Tryz.prog R272 := rowOk_plain (descOf_ok Tryz.underlying272) (info_of Tryz.types_size (by kernel_rfl) Tryz.type272) rfl (.inr rfl) rfl
noncomputable def R273 : TRow := { t := 273, d := .array 3 272, sz := 3, zv := Tryz.t273.zero, ty := .agg [.any, .any, .any], feq := none }
theorem R273_ok : RowOk Tryz.prog R273 := rowOk_plain Tryz.underlying273 (info_of Tryz.types_size (by kernel_rfl) Tryz.type273) rfl (.inr rfl) rfl
noncomputable def R278 : TRow := { t := 278, d := .tuple #[84, 37, 40], sz := 1, zv := Tryz.t278.zero, ty := .tup [.agg [.int .i64, .int .i64, .int .u8, .int .i64, .int .i64], .slice, .int .i64], feq := none }
theorem R278_ok : RowOk Tryz.prog R278 := rowOk_plain Tryz.underlying278 (info_of Tryz.types_size (by kernel_rfl) Tryz.type278) rfl (.inr rfl) rfl
noncomputable def R286 : TRow := { t := 286, d := .pointer 318, sz := 1, zv := Tryz.t286.zero, ty := .ptr, feq := none }
theorem R286_ok : RowOk Tryz.prog R286 := rowOk_plain Tryz.underlying286 (info_of Tryz.types_size (by kernel_rfl) Tryz.type286) rfl (.inr rfl) rfl
noncomputable def R296 : TRow := { t := 296, d := .interface #[("As", 298)], sz := 1, zv := Tryz.t296.zero, ty := .any, feq := none }
theorem R296_ok : RowOk Tryz.prog R296 := rowOk_plain Tryz.underlying296 (info_of Tryz.types_size (by kernel_rfl) Tryz.type296) rfl (.inr rfl) rfl
noncomputable def R299 : TRow := { t := 299, d := .interface #[("Unwrap", 289)], sz := 1, zv := Tryz.t299.zero, ty := .any, feq := none }
theorem R299_ok : RowOk Tryz.prog R299 := rowOk_plain Tryz.underlying299 (info_of Tryz.types_size (by kernel_rfl) Tryz.type299) rfl (.inr rfl) rfl
noncomputable def R300 : TRow := { t := 300, d := .interface #[("Unwrap", 302)], sz := 1, zv := Tryz.t300.zero, ty := .any, feq := none }
theorem R300_ok : RowOk Tryz.prog R300 := rowOk_plain Tryz.underlying300 (info_of Tryz.types_size (by kernel_rfl) Tryz.type300) rfl (.inr rfl) rfl
noncomputable def R301 : TRow := { t := 301, d := .slice 78, sz := 1, zv := Tryz.t301.zero, ty := .slice, feq := none }
theorem R301_ok : RowOk Tryz.prog R301 := rowOk_plain Tryz.underlying301 (info_of Tryz.types_size (by kernel_rfl) Tryz.type301) rfl (.inr rfl) rfl
noncomputable def R304 : TRow := { t := 304, d := .tuple #[202, 78], sz := 1, zv := Tryz.t304.zero, ty := .tup [.agg [.int .i64, .int .i64, .int .i64, .int .i64, .int .i64, .int .i64, .int .i64, .int .i64, .int .i64, .int .i64, .int .i64, .int .i64, .int .i64, .int .i64], .any], feq := none }
theorem R304_ok : RowOk Tryz.prog R304 := rowOk_plain Tryz.underlying304 (info_of Tryz.types_size (by kernel_rfl) Tryz.type304) rfl (.inr rfl) rfl
noncomputable def R309 : TRow := { t := 309, d := .struct #[], sz := 0, zv := Tryz.t309.zero, ty := .agg [], feq := some [] }
theorem R309_ok : RowOk Tryz.prog R309 := rowOk_struct Tryz.underlying309 (info_of Tryz.types_size (by kernel_rfl) Tryz.type309) rfl (.inr rfl) rfl rfl Tryz.stoodInHeld309 Tryz.eqGuardType309 trivial
noncomputable def R310 : TRow := { t := 310, d := .tuple #[84, 4], sz := 1, zv := Tryz.t310.zero, ty := .tup [.agg [.int .i64, .int .i64, .int .u8, .int .i64, .int .i64], .bool], feq := none }
theorem R310_ok : RowOk Tryz.prog R310 := rowOk_plain Tryz.underlying310 (info_of Tryz.types_size (by kernel_rfl) Tryz.type310) rfl (.inr rfl) rfl
noncomputable def R318 : TRow := { t := 318, d := .struct #[{ name := "b", type := 49, offset := 0, embedded := false, tag := "", pkgPath := "jotter/octet", byteOffset := 0 }, { name := "at", type := 3, offset := 1, embedded := false, tag := "", pkgPath := "jotter/octet", byteOffset := 24 }, { name := "err", type := 78, offset := 2, embedded := false, tag := "", pkgPath := "jotter/octet", byteOffset := 32 }], sz := 3, zv := Tryz.t318.zero, ty := .agg [.slice, .int .i64, .any], feq := none }
theorem R318_ok : RowOk Tryz.prog R318 := rowOk_plain Tryz.underlying318 (info_of Tryz.types_size (by kernel_rfl) Tryz.type318) rfl (.inr rfl) rfl
noncomputable def R321 : TRow := { t := 321, d := .array 3 28, sz := 3, zv := Tryz.t321.zero, ty := .agg [.any, .any, .any], feq := none }
theorem R321_ok : RowOk Tryz.prog R321 := rowOk_plain Tryz.underlying321 (info_of Tryz.types_size (by kernel_rfl) Tryz.type321) rfl (.inr rfl) rfl
noncomputable def R322 : TRow := { t := 322, d := .array 16 239, sz := 16, zv := Tryz.t322.zero, ty := .agg [.int .u32, .int .u32, .int .u32, .int .u32, .int .u32, .int .u32, .int .u32, .int .u32, .int .u32, .int .u32, .int .u32, .int .u32, .int .u32, .int .u32, .int .u32, .int .u32], feq := none }
theorem R322_ok : RowOk Tryz.prog R322 := rowOk_plain Tryz.underlying322 (info_of Tryz.types_size (by kernel_rfl) Tryz.type322) rfl (.inr rfl) rfl
noncomputable def R323 : TRow := { t := 323, d := .tuple #[84, 37], sz := 1, zv := Tryz.t323.zero, ty := .tup [.agg [.int .i64, .int .i64, .int .u8, .int .i64, .int .i64], .slice], feq := none }
theorem R323_ok : RowOk Tryz.prog R323 := rowOk_plain Tryz.underlying323 (info_of Tryz.types_size (by kernel_rfl) Tryz.type323) rfl (.inr rfl) rfl
noncomputable def R326 : TRow := { t := 326, d := .interface #[("Is", 328)], sz := 1, zv := Tryz.t326.zero, ty := .any, feq := none }
theorem R326_ok : RowOk Tryz.prog R326 := rowOk_plain Tryz.underlying326 (info_of Tryz.types_size (by kernel_rfl) Tryz.type326) rfl (.inr rfl) rfl
noncomputable def R331 : TRow := { t := 331, d := descOf Tryz.prog 331, sz := 1, zv := Tryz.t331.zero, ty := .any, feq := none }
theorem R331_ok : RowOk Tryz.prog R331 := rowOk_plain (descOf_ok Tryz.underlying331) (info_of Tryz.types_size (by kernel_rfl) Tryz.type331) rfl (.inr rfl) rfl
noncomputable def R332 : TRow := { t := 332, d := .array 3 331, sz := 3, zv := Tryz.t332.zero, ty := .agg [.any, .any, .any], feq := none }
theorem R332_ok : RowOk Tryz.prog R332 := rowOk_plain Tryz.underlying332 (info_of Tryz.types_size (by kernel_rfl) Tryz.type332) rfl (.inr rfl) rfl
noncomputable def R333 : TRow := { t := 333, d := .array 3 332, sz := 9, zv := Tryz.t333.zero, ty := .agg [.any, .any, .any, .any, .any, .any, .any, .any, .any], feq := none }
theorem R333_ok : RowOk Tryz.prog R333 := rowOk_plain Tryz.underlying333 (info_of Tryz.types_size (by kernel_rfl) Tryz.type333) rfl (.inr rfl) rfl
end Go.Sl
namespace Go.Sl
open Go Go.Proofs
set_option maxRecDepth 100000
variable {G h : Heap} {K : Value -> Heap -> Prop} {Kp : PK}
def ann9 : Nat -> LAnn := λ k => (bif Nat.beq k 68 then ⟨[(40, .int .i64)], [6, 362, 363, 364, 365, 366, 367, 368, 369, 370, 371, 372, 373, 374, 375]⟩ else (bif Nat.beq k 63 then ⟨[(39, .int .i64)], [6, 348, 349, 350, 351, 352, 353, 354, 355, 356, 357, 358, 359, 360, 361]⟩ else (bif Nat.beq k 58 then ⟨[(38, .int .i64)], [6, 323, 324, 325, 326, 327, 328, 329, 330, 331, 332, 333, 334, 335, 336, 337, 338, 339, 340, 341, 342, 343, 344, 345, 346, 347]⟩ else (bif Nat.beq k 53 then ⟨[(37, .int .i64)], [6, 299, 300, 301, 302, 303, 304, 305, 306, 307, 308, 309, 310, 311, 312, 313, 314, 315, 316, 317, 318, 319, 320, 321, 322]⟩ else (bif Nat.beq k 40 then ⟨[(29, .int .i64)], [225, 226, 227, 228, 229, 230, 231, 232, 233, 234, 235, 236]⟩ else (bif Nat.beq k 36 then ⟨[(28, .int .i64)], [213, 214, 215, 216, 217, 218, 219, 220, 221, 222, 223, 224]⟩ else (bif Nat.beq k 29 then ⟨[(25, .slice), (27, .int .i64)], [184, 185, 186, 187, 188, 189, 190, 191, 192, 193, 194, 195, 196, 197, 198, 199, 200, 201, 202]⟩ else (bif Nat.beq k 24 then ⟨[(24, .slice), (26, .int .i64)], [166, 167, 168, 169, 170, 171, 172, 173, 174, 175, 176, 177, 178, 179, 180, 181, 182, 183]⟩ else (bif Nat.beq k 11 then ⟨[(15, .int .i64)], [97, 98, 99, 100, 101, 102, 103, 104, 105]⟩ else ⟨[], []⟩)))))))))
theorem b9 : bOk Tryz.prog 9 Tryz.f9 392 ann9 = true := by kernel_rfl
def S111_k1 (G : Heap) (K : Value -> Heap -> Prop) (Kp : PK) (v23 : Nat) (v8 : Nat)  (h : Heap) : Prop :=
 LdI G h .i64 ⟨v23, 0, none⟩ λ v50 => LdI G h .i64 ⟨v23, 1, none⟩ λ v51 => LdI G h .u8 ⟨v23, 2, none⟩ λ v52 => LdI G h .i64 ⟨v23, 3, none⟩ λ v53 => LdI G h .i64 ⟨v23, 4, none⟩ λ v54 => st1 ⟨v8, 0, none⟩ (.int .i64 v50) (λ h => st1 ⟨v8, 1, none⟩ (.int .i64 v51) (λ h => st1 ⟨v8, 2, none⟩ (.int .u8 v52) (λ h => st1 ⟨v8, 3, none⟩ (.int .i64 v53) (λ h => st1 ⟨v8, 4, none⟩ (.int .i64 v54) (λ h => (LdI G h .i64 ⟨v8, 0, none⟩ λ v55 => LdI G h .i64 ⟨v8, 1, none⟩ λ v56 => LdI G h .u8 ⟨v8, 2, none⟩ λ v57 => LdI G h .i64 ⟨v8, 3, none⟩ λ v58 => LdI G h .i64 ⟨v8, 4, none⟩ λ v59 => K (.tuple #[(.agg #[(.int .i64 v55), (.int .i64 v56), (.int .u8 v57), (.int .i64 v58), (.int .i64 v59)]), (.int .i64 0)]) h)) h) h) h) h) h
def S111_l5 (G : Heap) (K : Value -> Heap -> Prop) (Kp : PK) (v20 : Nat) (v19 : Option Addr) (v1 : Option Addr) (v23 : Nat) (v8 : Nat) (_ : Nat -> Value) (v32 : List Value) (v31 : List Value -> Heap -> Prop) (h : Heap) : Prop :=
 ∃ v30, v32 = [(.int .i64 v30)] /\ (If (decide (v30 < ((v20 : Nat) : Int))) ((Rq ((0 : Int) <= v30 /\ v30 < ((v20 : Nat) : Int)) (NN v19 λ v33 => LdI G h .i64 (Addr.add v33 (Int.toNat v30 * 5)) λ v34 => LdI G h .i64 (ad (Addr.add v33 (Int.toNat v30 * 5)) 1) λ v35 => LdI G h .u8 (ad (Addr.add v33 (Int.toNat v30 * 5)) 2) λ v36 => LdI G h .i64 (ad (Addr.add v33 (Int.toNat v30 * 5)) 3) λ v37 => LdI G h .i64 (ad (Addr.add v33 (Int.toNat v30 * 5)) 4) λ v38 => newK G (.cells #[(.int .i64 0), (.int .i64 0), (.int .u8 0), (.int .i64 0), (.int .i64 0)] 84) (λ v39 h => st1 ⟨v39, 0, none⟩ (.int .i64 v34) (λ h => st1 ⟨v39, 1, none⟩ (.int .i64 v35) (λ h => st1 ⟨v39, 2, none⟩ (.int .u8 v36) (λ h => st1 ⟨v39, 3, none⟩ (.int .i64 v37) (λ h => st1 ⟨v39, 4, none⟩ (.int .i64 v38) (λ h => (NN v1 λ v40 => LdSl G h v40 λ v41 v42 v43 => LdI G h .i64 ⟨v39, 0, none⟩ λ v44 => LdI G h .i64 ⟨v39, 1, none⟩ λ v45 => LdI G h .u8 ⟨v39, 2, none⟩ λ v46 => LdI G h .i64 ⟨v39, 3, none⟩ λ v47 => LdI G h .i64 ⟨v39, 4, none⟩ λ v48 => Rq ((0 : Int) <= v30 /\ v30 < ((v42 : Nat) : Int)) (NN v41 λ v49 => st1 (ad (Addr.add v49 (Int.toNat v30 * 6)) 1) (.int .i64 v44) (λ h => st1 (ad (ad (Addr.add v49 (Int.toNat v30 * 6)) 1) 1) (.int .i64 v45) (λ h => st1 (ad (ad (Addr.add v49 (Int.toNat v30 * 6)) 1) 2) (.int .u8 v46) (λ h => st1 (ad (ad (Addr.add v49 (Int.toNat v30 * 6)) 1) 3) (.int .i64 v47) (λ h => st1 (ad (ad (Addr.add v49 (Int.toNat v30 * 6)) 1) 4) (.int .i64 v48) (λ h => (Rng (v30 + 1) (v31 [(.int .i64 (v30 + 1))] h))) h) h) h) h) h))) h) h) h) h) h) h))) ((S111_k1 G K Kp v23 v8 h)))
def S111 (G : Heap) (K : Value -> Heap -> Prop) (Kp : PK) (v1 : Option Addr) (v2 : Int) (v3 : Int) (v4 : Int) (v5 : Int) (v6 : Int) (h : Heap) : Prop :=
 newK G (.cells #[(.int .i64 v2), (.int .i64 v3), (.int .u8 v4), (.int .i64 v5), (.int .i64 v6)] 84) (λ v7 h => newK G (.cells #[(.int .i64 0), (.int .i64 0), (.int .u8 0), (.int .i64 0), (.int .i64 0)] 84) (λ v8 h => (LdI G h .i64 ⟨v7, 0, none⟩ λ v9 => LdI G h .i64 ⟨v7, 1, none⟩ λ v10 => LdI G h .u8 ⟨v7, 2, none⟩ λ v11 => LdI G h .i64 ⟨v7, 3, none⟩ λ v12 => LdI G h .i64 ⟨v7, 4, none⟩ λ v13 => CallF Tryz.prog G 147 #[(.pointer v1), (.agg #[(.int .i64 v9), (.int .i64 v10), (.int .u8 v11), (.int .i64 v12), (.int .i64 v13)])] (λ v24 h => ∃ v14 v15 v16 v17 v18 v19 v20 v21 v22, v24 = (.tuple #[(.agg #[(.int .i64 v14), (.int .i64 v15), (.int .u8 v16), (.int .i64 v17), (.int .i64 v18)]), (.slice v19 v20 v21), (.int .i64 v22)]) /\ newK G (.cells #[(.int .i64 0), (.int .i64 0), (.int .u8 0), (.int .i64 0), (.int .i64 0)] 84) (λ v23 h => st1 ⟨v23, 0, none⟩ (.int .i64 v14) (λ h => st1 ⟨v23, 1, none⟩ (.int .i64 v15) (λ h => st1 ⟨v23, 2, none⟩ (.int .u8 v16) (λ h => st1 ⟨v23, 3, none⟩ (.int .i64 v17) (λ h => st1 ⟨v23, 4, none⟩ (.int .i64 v18) (λ h => ((If (v22 != 0) (st1 ⟨v8, 0, none⟩ (.int .i64 0) (λ h => st1 ⟨v8, 1, none⟩ (.int .i64 0) (λ h => st1 ⟨v8, 2, none⟩ (.int .u8 0) (λ h => st1 ⟨v8, 3, none⟩ (.int .i64 0) (λ h => st1 ⟨v8, 4, none⟩ (.int .i64 0) (λ h => (LdI G h .i64 ⟨v8, 0, none⟩ λ v25 => LdI G h .i64 ⟨v8, 1, none⟩ λ v26 => LdI G h .u8 ⟨v8, 2, none⟩ λ v27 => LdI G h .i64 ⟨v8, 3, none⟩ λ v28 => LdI G h .i64 ⟨v8, 4, none⟩ λ v29 => K (.tuple #[(.agg #[(.int .i64 v25), (.int .i64 v26), (.int .u8 v27), (.int .i64 v28), (.int .i64 v29)]), (.int .i64 v22)]) h)) h) h) h) h) h) (((LoopS [(.int .i64 0)] h (S111_l5 G K Kp v20 v19 v1 v23 v8))))))) h) h) h) h) h) h) Kp h)) h) h
noncomputable def E111 : TE := mkE [R3, R5, R37, R40, R84, R218, R221, R223, R225, R278] false (.any)
theorem T111 : TOk Tryz.prog E111 := mkE_ok (AllOk.mem (⟨R3_ok, R5_ok, R37_ok, R40_ok, R84_ok, R218_ok, R221_ok, R223_ok, R225_ok, R278_ok, trivial⟩ : AllOk Tryz.prog [R3, R5, R37, R40, R84, R218, R221, R223, R225, R278]))
def ann111 : Nat -> LAnn := λ k => (bif Nat.beq k 5 then ⟨[(24, .int .i64)], [9, 10, 25, 26, 27, 28, 29, 30, 31, 32, 33, 34, 35, 36, 37, 38]⟩ else ⟨[], []⟩)
theorem vc111 {v1 : Option Addr} {v2 : Int} {v3 : Int} {v4 : Int} {v5 : Int} {v6 : Int} :
  S111 G K Kp v1 v2 v3 v4 v5 v6 h = vcC E111 Tryz.prog G 40 ann111 Kp (bodyOf Tryz.f111) (retQ E111 G Tryz.f111.results.toList K) (frmA (#[(.pointer v1), (.agg #[(.int .i64 v2), (.int .i64 v3), (.int .u8 v4), (.int .i64 v5), (.int .i64 v6)])] : Array Value).toList 0) h := by kernel_rfl
theorem b111 : bOk Tryz.prog 111 Tryz.f111 40 ann111 = true := by kernel_rfl
theorem S111_ok {v1 : Option Addr} {v2 : Int} {v3 : Int} {v4 : Int} {v5 : Int} {v6 : Int} (hh : S111 G K Kp v1 v2 v3 v4 v5 v6 h) :
  CallF Tryz.prog G 111 #[(.pointer v1), (.agg #[(.int .i64 v2), (.int .i64 v3), (.int .u8 v4), (.int .i64 v5), (.int .i64 v6)])] K Kp h :=
 callF_b T111 hmix Tryz.func111 Tryz.ntmps111 b111 (by kernel_rfl) (Eq.mp vc111 hh)
def S8_k2 (G : Heap) (K : Value -> Heap -> Prop) (Kp : PK)  (v73 : Bool) (h : Heap) : Prop :=
 K (.bool v73) h
def S8_k1 (G : Heap) (K : Value -> Heap -> Prop) (Kp : PK) (v12 : Option Addr) (v22 : Int) (v17 : Nat) (v23 : Int) (v58 : Bool) (h : Heap) : Prop :=
 If v58 ((K (.bool false) h)) ((CallF Tryz.prog G 26 #[(.pointer v12), (.int .i64 v22), (.int .i64 ((v17 : Nat) : Int))] (λ v63 h => ∃ v59 v60 v61 v62, v63 = (.tuple #[(.slice v59 v60 v61), (.int .i64 v62)]) /\ (CallF Tryz.prog G 26 #[(.pointer v12), (.int .i64 (-1)), (.int .i64 v23)] (λ v68 h => ∃ v64 v65 v66 v67, v68 = (.tuple #[(.slice v64 v65 v66), (.int .i64 v67)]) /\ (CallF Tryz.prog G 13 #[(.int .i64 v62)] (λ v72 h => ∃ v69, v72 = (.int .i64 v69) /\ If (v69 == 180) (CallF Tryz.prog G 13 #[(.int .i64 v67)] (λ v71 h => ∃ v70, v71 = (.int .i64 v70) /\ (S8_k2 G K Kp (v70 == 180) h)) Kp h) ((S8_k2 G K Kp false h))) Kp h)) Kp h)) Kp h))
def S8 (G : Heap) (K : Value -> Heap -> Prop) (Kp : PK) (v1 : Option Addr) (v2 : Nat) (v3 : Nat) (v4 : Int) (v5 : Int) (v6 : Int) (h : Heap) : Prop :=
 newK G (.cells #[(.slice v1 v2 v3), (.int .i64 v4), (.int .i64 v5), (.int .i64 v6)] 72) (λ v7 h => (LdSl G h ⟨v7, 0, none⟩ λ v8 v9 v10 => CallF Tryz.prog G 10 #[(.slice v8 v9 v10)] (λ v14 h => ∃ v11 v12 v13, v14 = (.tuple #[(.pointer v11), (.pointer v12), (.bool v13)]) /\ ((If (!v13) ((K (.bool false) h)) ((NN v11 λ v15 => LdSl G h (ad v15 14) λ v16 v17 v18 => (LdI G h .i64 ⟨v7, 1, none⟩ λ v19 => LdI G h .i64 ⟨v7, 2, none⟩ λ v20 => LdI G h .i64 ⟨v7, 3, none⟩ λ v21 => CallF Tryz.prog G 16 #[(.int .i64 v19), (.int .i64 ((v17 : Nat) : Int))] (λ v27 h => ∃ v22, v27 = (.int .i64 v22) /\ hcell (rd G h) ⟨v7, 3, none⟩ = some (.int .i64 v21) /\ hcell (rd G h) ⟨v7, 2, none⟩ = some (.int .i64 v20) /\ CallF Tryz.prog G 16 #[(.int .i64 v20), (.int .i64 ((v17 : Nat) : Int))] (λ v26 h => ∃ v23, v26 = (.int .i64 v23) /\ hcell (rd G h) ⟨v7, 3, none⟩ = some (.int .i64 v21) /\ CallF Tryz.prog G 16 #[(.int .i64 v21), (.int .i64 ((v17 : Nat) : Int))] (λ v25 h => ∃ v24, v25 = (.int .i64 v24) /\ (NN v11 λ v28 => LdSl G h (ad v28 14) λ v29 v30 v31 => Rq ((0 : Int) <= v22 /\ v22 < ((v30 : Nat) : Int)) (NN v29 λ v32 => LdSl G h (Addr.add v32 (Int.toNat v22 * 1)) λ v33 v34 v35 => CallF Tryz.prog G 25 #[(.pointer v11), (.pointer v12), (.int .i64 v22), (.int .i64 v23), (.slice v33 v34 v35)] (λ v57 h => ∃ v36, v57 = (.bool v36) /\ If (!v36) ((S8_k1 G K Kp v12 v22 v17 v23 true h)) (NN v11 λ v37 => LdSl G h (ad v37 14) λ v38 v39 v40 => Rq ((0 : Int) <= v23 /\ v23 < ((v39 : Nat) : Int)) (NN v38 λ v41 => LdSl G h (Addr.add v41 (Int.toNat v23 * 1)) λ v42 v43 v44 => CallF Tryz.prog G 25 #[(.pointer v11), (.pointer v12), (.int .i64 v23), (.int .i64 v24), (.slice v42 v43 v44)] (λ v56 h => ∃ v45, v56 = (.bool v45) /\ If (!v45) ((S8_k1 G K Kp v12 v22 v17 v23 true h)) (NN v11 λ v46 => LdSl G h (ad v46 14) λ v47 v48 v49 => Rq ((0 : Int) <= v22 /\ v22 < ((v48 : Nat) : Int)) (NN v47 λ v50 => LdSl G h (Addr.add v50 (Int.toNat v22 * 1)) λ v51 v52 v53 => CallF Tryz.prog G 25 #[(.pointer v11), (.pointer v12), (.int .i64 v22), (.int .i64 v24), (.slice v51 v52 v53)] (λ v55 h => ∃ v54, v55 = (.bool v54) /\ (S8_k1 G K Kp v12 v22 v17 v23 (!v54) h)) Kp h))) Kp h))) Kp h))) Kp h) Kp h) Kp h)))))) Kp h)) h
noncomputable def E8 : TE := mkE [R3, R4, R22, R26, R36, R39, R45, R72, R74] false (.any)
theorem T8 : TOk Tryz.prog E8 := mkE_ok (AllOk.mem (⟨R3_ok, R4_ok, R22_ok, R26_ok, R36_ok, R39_ok, R45_ok, R72_ok, R74_ok, trivial⟩ : AllOk Tryz.prog [R3, R4, R22, R26, R36, R39, R45, R72, R74]))
def ann8 : Nat -> LAnn := λ _ => ⟨[], []⟩
theorem vc8 {v1 : Option Addr} {v2 : Nat} {v3 : Nat} {v4 : Int} {v5 : Int} {v6 : Int} :
  S8 G K Kp v1 v2 v3 v4 v5 v6 h = vcC E8 Tryz.prog G 104 ann8 Kp (bodyOf Tryz.f8) (retQ E8 G Tryz.f8.results.toList K) (frmA (#[(.agg #[(.slice v1 v2 v3), (.int .i64 v4), (.int .i64 v5), (.int .i64 v6)])] : Array Value).toList 0) h := by kernel_rfl
theorem b8 : bOk Tryz.prog 8 Tryz.f8 104 ann8 = true := by kernel_rfl
theorem S8_ok {v1 : Option Addr} {v2 : Nat} {v3 : Nat} {v4 : Int} {v5 : Int} {v6 : Int} (hh : S8 G K Kp v1 v2 v3 v4 v5 v6 h) :
  CallF Tryz.prog G 8 #[(.agg #[(.slice v1 v2 v3), (.int .i64 v4), (.int .i64 v5), (.int .i64 v6)])] K Kp h :=
 callF_b T8 hmix Tryz.func8 Tryz.ntmps8 b8 (by kernel_rfl) (Eq.mp vc8 hh)
def S187 (G : Heap) (K : Value -> Heap -> Prop) (Kp : PK) (v1 : Int) (v2 : Int) (v3 : Int) (v4 : Int) (v5 : Int) (v6 : Int) (v7 : Int) (v8 : Int) (v9 : Int) (v10 : Int) (v11 : Bool) (h : Heap) : Prop :=
 newK G (.cells #[(.int .i64 v1), (.int .i64 v2), (.int .u8 v3), (.int .i64 v4), (.int .i64 v5)] 84) (λ v12 h => newK G (.cells #[(.int .i64 v6), (.int .i64 v7), (.int .u8 v8), (.int .i64 v9), (.int .i64 v10)] 84) (λ v13 h => newK G (.cells #[(.int .i64 0), (.int .i64 0), (.int .u8 0), (.int .i64 0), (.int .i64 0)] 84) (λ v14 h => (LdI G h .i64 ⟨v12, 0, none⟩ λ v15 => LdI G h .i64 ⟨v13, 0, none⟩ λ v16 => LdI G h .i64 ⟨v12, 1, none⟩ λ v17 => LdI G h .i64 ⟨v13, 1, none⟩ λ v18 => CallF Tryz.prog G 188 #[(.int .i64 v15)] (λ v26 h => ∃ v19, v26 = (.int .i64 v19) /\ hcell (rd G h) ⟨v13, 1, none⟩ = some (.int .i64 v18) /\ hcell (rd G h) ⟨v12, 1, none⟩ = some (.int .i64 v17) /\ hcell (rd G h) ⟨v13, 0, none⟩ = some (.int .i64 v16) /\ Rq ((0 : Int) <= v19 /\ v19 < ((3 : Nat) : Int)) (CallF Tryz.prog G 188 #[(.int .i64 v16)] (λ v25 h => ∃ v20, v25 = (.int .i64 v20) /\ hcell (rd G h) ⟨v13, 1, none⟩ = some (.int .i64 v18) /\ hcell (rd G h) ⟨v12, 1, none⟩ = some (.int .i64 v17) /\ Rq ((0 : Int) <= v20 /\ v20 < ((3 : Nat) : Int)) (LdV G h (Addr.add (Addr.add ⟨6, 0, none⟩ (Int.toNat v19 * 3)) (Int.toNat v20 * 1)) λ v21 => CallV Tryz.prog G v21 [(.int .i64 v17), (.int .i64 v18), (.bool v11)] (λ v24 h => ∃ v22 v23, v24 = (.tuple #[(.int .i64 v22), (.bool v23)]) /\ ((If (!v23) (LdI G h .i64 ⟨v12, 3, none⟩ λ v27 => LdI G h .i64 ⟨v12, 4, none⟩ λ v28 => st1 ⟨v14, 0, none⟩ (.int .i64 0) (λ h => st1 ⟨v14, 1, none⟩ (.int .i64 0) (λ h => st1 ⟨v14, 2, none⟩ (.int .u8 0) (λ h => st1 ⟨v14, 3, none⟩ (.int .i64 v27) (λ h => st1 ⟨v14, 4, none⟩ (.int .i64 v28) (λ h => (LdI G h .i64 ⟨v14, 0, none⟩ λ v29 => LdI G h .i64 ⟨v14, 1, none⟩ λ v30 => LdI G h .u8 ⟨v14, 2, none⟩ λ v31 => LdI G h .i64 ⟨v14, 3, none⟩ λ v32 => LdI G h .i64 ⟨v14, 4, none⟩ λ v33 => K (.agg #[(.int .i64 v29), (.int .i64 v30), (.int .u8 v31), (.int .i64 v32), (.int .i64 v33)]) h)) h) h) h) h) h) ((st1 ⟨v12, 1, none⟩ (.int .i64 v22) (λ h => (LdI G h .i64 ⟨v12, 0, none⟩ λ v34 => LdI G h .i64 ⟨v12, 1, none⟩ λ v35 => LdI G h .u8 ⟨v12, 2, none⟩ λ v36 => LdI G h .i64 ⟨v12, 3, none⟩ λ v37 => LdI G h .i64 ⟨v12, 4, none⟩ λ v38 => st1 ⟨v14, 0, none⟩ (.int .i64 v34) (λ h => st1 ⟨v14, 1, none⟩ (.int .i64 v35) (λ h => st1 ⟨v14, 2, none⟩ (.int .u8 v36) (λ h => st1 ⟨v14, 3, none⟩ (.int .i64 v37) (λ h => st1 ⟨v14, 4, none⟩ (.int .i64 v38) (λ h => (LdI G h .i64 ⟨v14, 0, none⟩ λ v39 => LdI G h .i64 ⟨v14, 1, none⟩ λ v40 => LdI G h .u8 ⟨v14, 2, none⟩ λ v41 => LdI G h .i64 ⟨v14, 3, none⟩ λ v42 => LdI G h .i64 ⟨v14, 4, none⟩ λ v43 => K (.agg #[(.int .i64 v39), (.int .i64 v40), (.int .u8 v41), (.int .i64 v42), (.int .i64 v43)]) h)) h) h) h) h) h)) h))))) Kp h)) Kp h)) Kp h)) h) h) h
noncomputable def E187 : TE := mkE [R3, R5, R84, R215, R331, R332, R333] false (.any)
theorem T187 : TOk Tryz.prog E187 := mkE_ok (AllOk.mem (⟨R3_ok, R5_ok, R84_ok, R215_ok, R331_ok, R332_ok, R333_ok, trivial⟩ : AllOk Tryz.prog [R3, R5, R84, R215, R331, R332, R333]))
def ann187 : Nat -> LAnn := λ _ => ⟨[], []⟩
theorem vc187 {v1 : Int} {v2 : Int} {v3 : Int} {v4 : Int} {v5 : Int} {v6 : Int} {v7 : Int} {v8 : Int} {v9 : Int} {v10 : Int} {v11 : Bool} :
  S187 G K Kp v1 v2 v3 v4 v5 v6 v7 v8 v9 v10 v11 h = vcC E187 Tryz.prog G 37 ann187 Kp (bodyOf Tryz.f187) (retQ E187 G Tryz.f187.results.toList K) (frmA (#[(.agg #[(.int .i64 v1), (.int .i64 v2), (.int .u8 v3), (.int .i64 v4), (.int .i64 v5)]), (.agg #[(.int .i64 v6), (.int .i64 v7), (.int .u8 v8), (.int .i64 v9), (.int .i64 v10)]), (.bool v11)] : Array Value).toList 0) h := by kernel_rfl
theorem b187 : bOk Tryz.prog 187 Tryz.f187 37 ann187 = true := by kernel_rfl
theorem S187_ok {v1 : Int} {v2 : Int} {v3 : Int} {v4 : Int} {v5 : Int} {v6 : Int} {v7 : Int} {v8 : Int} {v9 : Int} {v10 : Int} {v11 : Bool} (hh : S187 G K Kp v1 v2 v3 v4 v5 v6 v7 v8 v9 v10 v11 h) :
  CallF Tryz.prog G 187 #[(.agg #[(.int .i64 v1), (.int .i64 v2), (.int .u8 v3), (.int .i64 v4), (.int .i64 v5)]), (.agg #[(.int .i64 v6), (.int .i64 v7), (.int .u8 v8), (.int .i64 v9), (.int .i64 v10)]), (.bool v11)] K Kp h :=
 callF_b T187 hmix Tryz.func187 Tryz.ntmps187 b187 (by kernel_rfl) (Eq.mp vc187 hh)
def S30_k3 (G : Heap) (K : Value -> Heap -> Prop) (Kp : PK) (v2 : Nat) (v27 : Bool) (h : Heap) : Prop :=
 K (.tuple #[(.pointer (some ⟨v2, 0, none⟩)), (.bool v27)]) h
def S30_k2 (G : Heap) (K : Value -> Heap -> Prop) (Kp : PK) (v2 : Nat) (v13 : Option Addr) (v16 : Bool) (h : Heap) : Prop :=
 If v16 ((K (.tuple #[(.pointer (some ⟨v2, 0, none⟩)), (.bool false)]) h)) ((st1 ⟨v2, 4, none⟩ (.pointer v13) (λ h => (CallF Tryz.prog G 49 #[(.pointer (some ⟨v2, 0, none⟩))] (λ v17 h => v17 = (.tuple #[]) /\ (CallF Tryz.prog G 50 #[(.pointer v13)] (λ v20 h => ∃ v18 v19, v20 = (.tuple #[(.int .i64 v18), (.int .i64 v19)]) /\ (CallF Tryz.prog G 49 #[(.pointer (some ⟨v2, 0, none⟩))] (λ v21 h => v21 = (.tuple #[]) /\ (CallF Tryz.prog G 13 #[(.int .i64 v19)] (λ v26 h => ∃ v22, v26 = (.int .i64 v22) /\ If (v22 == 0) (LdP G h ⟨v2, 3, none⟩ λ v23 => CallF Tryz.prog G 51 #[(.pointer v23)] (λ v25 h => ∃ v24, v25 = (.int .i64 v24) /\ (S30_k3 G K Kp v2 (decide (v24 > 0)) h)) Kp h) ((S30_k3 G K Kp v2 false h))) Kp h)) Kp h)) Kp h)) Kp h)) h))
def S30_k1 (G : Heap) (K : Value -> Heap -> Prop) (Kp : PK) (v2 : Nat)  (h : Heap) : Prop :=
 CallF Tryz.prog G 48 #[] (λ v10 h => ∃ v9, v10 = (.pointer v9) /\ st1 ⟨v2, 3, none⟩ (.pointer v9) (λ h => (LdP G h ⟨v2, 3, none⟩ λ v11 => (If v11.isNone ((K (.tuple #[(.pointer (some ⟨v2, 0, none⟩)), (.bool false)]) h)) ((LdP G h ⟨v2, 3, none⟩ λ v12 => CallF Tryz.prog G 44 #[(.pointer v12)] (λ v15 h => ∃ v13 v14, v15 = (.tuple #[(.pointer v13), v14]) /\ (If v13.isNone ((S30_k2 G K Kp v2 v13 true h)) (Rq (IsI v14) ((S30_k2 G K Kp v2 v13 (!(isNilI v14)) h))))) Kp h))))) h) Kp h
def S30_l3 (G : Heap) (K : Value -> Heap -> Prop) (Kp : PK) (v2 : Nat) (_ : Nat -> Value) (v5 : List Value) (v4 : List Value -> Heap -> Prop) (h : Heap) : Prop :=
 ∃ v3, v5 = [(.int .i64 v3)] /\ (If (decide (v3 < 3)) ((Rng (v3 + 1) (CallF Tryz.prog G 47 #[(.int .i64 (v3 + 1))] (λ v8 h => ∃ v6 v7, v8 = (.tuple #[(.pointer v6), (.bool v7)]) /\ ((If (!v7) ((K (.tuple #[(.pointer (some ⟨v2, 0, none⟩)), (.bool false)]) h)) ((Rq ((0 : Int) <= v3 /\ v3 < ((3 : Nat) : Int)) (st1 (Addr.add ⟨v2, 0, none⟩ (Int.toNat v3 * 1)) (.pointer v6) (λ h => (Rng (v3 + 1) (v4 [(.int .i64 (v3 + 1))] h))) h)))))) Kp h))) ((S30_k1 G K Kp v2 h)))
def S30 (G : Heap) (K : Value -> Heap -> Prop) (Kp : PK)  (h : Heap) : Prop :=
 (newK G (.cells #[(.slice none 0 0)] 45) (λ v1 h => newK G (.cells #[(.pointer none), (.pointer none), (.pointer none), (.pointer none), (.pointer none), (.slice none 0 0), (.slice none 0 0), (.slice none 0 0), (.int .i64 0), (.int .i64 0), (.int .i64 0), (.int .i64 0), (.int .i64 0), (.int .i64 0), (.slice (some ⟨v1, 0, none⟩) 1 1), (.slice none 0 0), (.slice none 0 0), (.slice none 0 0), (.int .i64 0)] 39) (λ v2 h => ((LoopS [(.int .i64 0)] h (S30_l3 G K Kp v2)))) h) h)
noncomputable def E30 : TE := mkE [R0, R3, R23, R29, R30, R31, R32, R34, R35, R36, R37, R39, R45, R65, R78, R114, R118] false (.any)
theorem T30 : TOk Tryz.prog E30 := mkE_ok (AllOk.mem (⟨R0_ok, R3_ok, R23_ok, R29_ok, R30_ok, R31_ok, R32_ok, R34_ok, R35_ok, R36_ok, R37_ok, R39_ok, R45_ok, R65_ok, R78_ok, R114_ok, R118_ok, trivial⟩ : AllOk Tryz.prog [R0, R3, R23, R29, R30, R31, R32, R34, R35, R36, R37, R39, R45, R65, R78, R114, R118]))
def ann30 : Nat -> LAnn := λ k => (bif Nat.beq k 3 then ⟨[(3, .int .i64)], [0, 1, 4, 5, 13, 14, 15, 16, 17, 18, 19, 20, 21, 22, 23, 24, 25, 26, 27, 28, 29, 30, 31]⟩ else ⟨[], []⟩)
theorem vc30  :
  S30 G K Kp  h = vcC E30 Tryz.prog G 82 ann30 Kp (bodyOf Tryz.f30) (retQ E30 G Tryz.f30.results.toList K) (frmA (#[] : Array Value).toList 0) h := by kernel_rfl
theorem b30 : bOk Tryz.prog 30 Tryz.f30 82 ann30 = true := by kernel_rfl
theorem S30_ok  (hh : S30 G K Kp  h) :
  CallF Tryz.prog G 30 #[] K Kp h :=
 callF_b T30 hmix Tryz.func30 Tryz.ntmps30 b30 (by kernel_rfl) (Eq.mp vc30 hh)
def S138_k2 (G : Heap) (K : Value -> Heap -> Prop) (Kp : PK) (v1 : Option Addr) (v2 : Int) (v8 : Nat) (v22 : Bool) (h : Heap) : Prop :=
 If v22 ((K (.int .i64 92) h)) ((NN v1 λ v23 => LdI G h .i64 (ad v23 1) λ v24 => NN v1 λ v25 => LdI G h .i64 v25 λ v26 => Rng (v24 + v26) ((If (decide (v2 > (v24 + v26))) ((K (.int .i64 93) h)) ((NN v1 λ v27 => LdM G h (ad v27 2) λ v28 => LdI G h .i64 ⟨v8, 0, none⟩ λ v29 => LdI G h .i64 ⟨v8, 1, none⟩ λ v30 => LdI G h .u8 ⟨v8, 2, none⟩ λ v31 => LdI G h .i64 ⟨v8, 3, none⟩ λ v32 => LdI G h .i64 ⟨v8, 4, none⟩ λ v33 => slU Tryz.prog G (Instr.mapUpdate 262 (.map v28) (.int .i64 v2) (.agg #[(.int .i64 v29), (.int .i64 v30), (.int .u8 v31), (.int .i64 v32), (.int .i64 v33)])) (λ v34 h => v34 = (.tuple #[]) /\ ((K (.int .i64 0) h))) Kp h))))))
def S138_k1 (G : Heap) (K : Value -> Heap -> Prop) (Kp : PK) (v1 : Option Addr) (v2 : Int) (v8 : Nat) (v9 : Bool) (h : Heap) : Prop :=
 If v9 ((K (.int .i64 91) h)) ((NN v1 λ v10 => LdM G h (ad v10 2) λ v11 => slV Tryz.prog G (Instr.lookup 262 (.map v11) (.int .i64 v2) true) (λ v19 h => ∃ v12 v13 v14 v15 v16 v17, v19 = (.tuple #[(.agg #[(.int .i64 v12), (.int .i64 v13), (.int .u8 v14), (.int .i64 v15), (.int .i64 v16)]), (.bool v17)]) /\ newK G (.cells #[(.int .i64 0), (.int .i64 0), (.int .u8 0), (.int .i64 0), (.int .i64 0)] 84) (λ v18 h => st1 ⟨v18, 0, none⟩ (.int .i64 v12) (λ h => st1 ⟨v18, 1, none⟩ (.int .i64 v13) (λ h => st1 ⟨v18, 2, none⟩ (.int .u8 v14) (λ h => st1 ⟨v18, 3, none⟩ (.int .i64 v15) (λ h => st1 ⟨v18, 4, none⟩ (.int .i64 v16) (λ h => (If v17 ((S138_k2 G K Kp v1 v2 v8 true h)) (NN v1 λ v20 => LdI G h .i64 (ad v20 1) λ v21 => (S138_k2 G K Kp v1 v2 v8 (decide (v2 <= v21)) h)))) h) h) h) h) h) h) Kp h))
def S138 (G : Heap) (K : Value -> Heap -> Prop) (Kp : PK) (v1 : Option Addr) (v2 : Int) (v3 : Int) (v4 : Int) (v5 : Int) (v6 : Int) (v7 : Int) (h : Heap) : Prop :=
 newK G (.cells #[(.int .i64 v3), (.int .i64 v4), (.int .u8 v5), (.int .i64 v6), (.int .i64 v7)] 84) (λ v8 h => (If (decide (v2 < 1)) ((S138_k1 G K Kp v1 v2 v8 true h)) ((S138_k1 G K Kp v1 v2 v8 (decide (v2 > 4096)) h)))) h
noncomputable def E138 : TE := mkE [R0, R3, R84, R262, R264, R310] false (.any)
theorem T138 : TOk Tryz.prog E138 := mkE_ok (AllOk.mem (⟨R0_ok, R3_ok, R84_ok, R262_ok, R264_ok, R310_ok, trivial⟩ : AllOk Tryz.prog [R0, R3, R84, R262, R264, R310]))
def ann138 : Nat -> LAnn := λ _ => ⟨[], []⟩
theorem vc138 {v1 : Option Addr} {v2 : Int} {v3 : Int} {v4 : Int} {v5 : Int} {v6 : Int} {v7 : Int} :
  S138 G K Kp v1 v2 v3 v4 v5 v6 v7 h = vcC E138 Tryz.prog G 50 ann138 Kp (bodyOf Tryz.f138) (retQ E138 G Tryz.f138.results.toList K) (frmA (#[(.pointer v1), (.int .i64 v2), (.agg #[(.int .i64 v3), (.int .i64 v4), (.int .u8 v5), (.int .i64 v6), (.int .i64 v7)])] : Array Value).toList 0) h := by kernel_rfl
theorem b138 : bOk Tryz.prog 138 Tryz.f138 50 ann138 = true := by kernel_rfl
theorem S138_ok {v1 : Option Addr} {v2 : Int} {v3 : Int} {v4 : Int} {v5 : Int} {v6 : Int} {v7 : Int} (hh : S138 G K Kp v1 v2 v3 v4 v5 v6 v7 h) :
  CallF Tryz.prog G 138 #[(.pointer v1), (.int .i64 v2), (.agg #[(.int .i64 v3), (.int .i64 v4), (.int .u8 v5), (.int .i64 v6), (.int .i64 v7)])] K Kp h :=
 callF_b T138 hmix Tryz.func138 Tryz.ntmps138 b138 (by kernel_rfl) (Eq.mp vc138 hh)
def S106_k3 (G : Heap) (K : Value -> Heap -> Prop) (Kp : PK) (v6 : Nat) (v23 : Int) (h : Heap) : Prop :=
 LdI G h .i64 ⟨v6, 1, none⟩ λ v24 => CallF Tryz.prog G 145 #[(.int .i64 v24), (.int .i64 0), (.int .i64 v23)] (λ v26 h => ∃ v25, v26 = (.bool v25) /\ (If (!v25) ((K (.int .i64 43) h)) (((K (.int .i64 0) h))))) Kp h
def S106_k2 (G : Heap) (K : Value -> Heap -> Prop) (Kp : PK) (v6 : Nat)  (h : Heap) : Prop :=
 (LdI G h .i64 ⟨v6, 0, none⟩ λ v22 => (If (v22 == 0) ((S106_k3 G K Kp v6 0 h)) ((S106_k3 G K Kp v6 4095 h))))
def S106_k1 (G : Heap) (K : Value -> Heap -> Prop) (Kp : PK) (v6 : Nat) (v16 : Bool) (h : Heap) : Prop :=
 If v16 ((K (.int .i64 41) h)) ((LdI G h .i64 ⟨v6, 0, none⟩ λ v17 => (If (v17 == 1) (LdI G h .u8 ⟨v6, 2, none⟩ λ v18 => CallF Tryz.prog G 145 #[(.int .i64 (IntKind.wrap .i64 v18)), (.int .i64 32), (.int .i64 126)] (λ v20 h => ∃ v19, v20 = (.bool v19) /\ (If (!v19) ((K (.int .i64 42) h)) ((S106_k2 G K Kp v6 h)))) Kp h) (LdI G h .u8 ⟨v6, 2, none⟩ λ v21 => (If (v21 != 0) ((K (.int .i64 42) h)) ((S106_k2 G K Kp v6 h)))))))
def S106 (G : Heap) (K : Value -> Heap -> Prop) (Kp : PK) (v1 : Int) (v2 : Int) (v3 : Int) (v4 : Int) (v5 : Int) (h : Heap) : Prop :=
 newK G (.cells #[(.int .i64 v1), (.int .i64 v2), (.int .u8 v3), (.int .i64 v4), (.int .i64 v5)] 84) (λ v6 h => (LdI G h .i64 ⟨v6, 0, none⟩ λ v7 => CallF Tryz.prog G 145 #[(.int .i64 v7), (.int .i64 0), (.int .i64 2)] (λ v9 h => ∃ v8, v9 = (.bool v8) /\ (If (!v8) ((K (.int .i64 40) h)) ((LdI G h .i64 ⟨v6, 3, none⟩ λ v10 => CallF Tryz.prog G 145 #[(.int .i64 v10), (.int .i64 1), (.int .i64 64)] (λ v15 h => ∃ v11, v15 = (.bool v11) /\ If (!v11) ((S106_k1 G K Kp v6 true h)) (LdI G h .i64 ⟨v6, 4, none⟩ λ v12 => CallF Tryz.prog G 145 #[(.int .i64 v12), (.int .i64 1), (.int .i64 64)] (λ v14 h => ∃ v13, v14 = (.bool v13) /\ (S106_k1 G K Kp v6 (!v13) h)) Kp h)) Kp h)))) Kp h)) h
noncomputable def E106 : TE := mkE [R3, R4, R5, R84] false (.any)
theorem T106 : TOk Tryz.prog E106 := mkE_ok (AllOk.mem (⟨R3_ok, R4_ok, R5_ok, R84_ok, trivial⟩ : AllOk Tryz.prog [R3, R4, R5, R84]))
def ann106 : Nat -> LAnn := λ _ => ⟨[], []⟩
theorem vc106 {v1 : Int} {v2 : Int} {v3 : Int} {v4 : Int} {v5 : Int} :
  S106 G K Kp v1 v2 v3 v4 v5 h = vcC E106 Tryz.prog G 37 ann106 Kp (bodyOf Tryz.f106) (retQ E106 G Tryz.f106.results.toList K) (frmA (#[(.agg #[(.int .i64 v1), (.int .i64 v2), (.int .u8 v3), (.int .i64 v4), (.int .i64 v5)])] : Array Value).toList 0) h := by kernel_rfl
theorem b106 : bOk Tryz.prog 106 Tryz.f106 37 ann106 = true := by kernel_rfl
theorem S106_ok {v1 : Int} {v2 : Int} {v3 : Int} {v4 : Int} {v5 : Int} (hh : S106 G K Kp v1 v2 v3 v4 v5 h) :
  CallF Tryz.prog G 106 #[(.agg #[(.int .i64 v1), (.int .i64 v2), (.int .u8 v3), (.int .i64 v4), (.int .i64 v5)])] K Kp h :=
 callF_b T106 hmix Tryz.func106 Tryz.ntmps106 b106 (by kernel_rfl) (Eq.mp vc106 hh)
def S61_k2 (G : Heap) (K : Value -> Heap -> Prop) (Kp : PK) (v12 : Nat) (v9 : Value)  (h : Heap) : Prop :=
 (K (.tuple #[(.pointer (some ⟨v12, 0, none⟩)), v9]) h)
def S61_k1 (G : Heap) (K : Value -> Heap -> Prop) (Kp : PK) (v9 : Value) (v1 : Option Addr) (v12 : Nat)  (h : Heap) : Prop :=
 newK G (.cells #[(.pointer none)] 134) (λ v21 h => (CallF Tryz.prog G 86 #[v9, (.iface 174 (.pointer (some ⟨v21, 0, none⟩)))] (λ v23 h => ∃ v22, v23 = (.bool v22) /\ (If v22 (LdP G h ⟨v21, 0, none⟩ λ v24 => NN v24 λ v25 => LdI G h .i64 v25 λ v26 => CallF Tryz.prog G 87 #[(.pointer v1), (.int .i64 v26)] (λ v28 h => ∃ v27, v28 = (.int .i64 v27) /\ (S61_k2 G K Kp v12 v9 h)) Kp h) ((S61_k2 G K Kp v12 v9 h)))) Kp h)) h
def S61_l4 (G : Heap) (K : Value -> Heap -> Prop) (Kp : PK) (v6 : Nat) (v5 : Option Addr) (v12 : Nat) (v9 : Value) (v1 : Option Addr) (_ : Nat -> Value) (v15 : List Value) (v14 : List Value -> Heap -> Prop) (h : Heap) : Prop :=
 ∃ v13, v15 = [(.int .i64 v13)] /\ (If (decide (v13 < ((v6 : Nat) : Int))) ((Rq ((0 : Int) <= v13 /\ v13 < ((v6 : Nat) : Int)) (NN v5 λ v16 => LdSl G h (Addr.add v16 (Int.toNat v13 * 1)) λ v17 v18 v19 => (CallF Tryz.prog G 85 #[(.pointer (some ⟨v12, 0, none⟩)), (.slice v17 v18 v19)] (λ v20 h => v20 = (.tuple #[]) /\ (Rng (v13 + 1) (v14 [(.int .i64 (v13 + 1))] h))) Kp h)))) ((S61_k1 G K Kp v9 v1 v12 h)))
def S61 (G : Heap) (K : Value -> Heap -> Prop) (Kp : PK) (v1 : Option Addr) (h : Heap) : Prop :=
 (CallF Tryz.prog G 15 #[(.pointer v1)] (λ v11 h => ∃ v2 v3 v4, v11 = (.slice v2 v3 v4) /\ CallF Tryz.prog G 84 #[(.slice v2 v3 v4)] (λ v10 h => ∃ v5 v6 v7 v8 v9, v10 = (.tuple #[(.slice v5 v6 v7), (.int .i64 v8), v9]) /\ (newK G (.cells #[(.pointer v1), (.slice none 0 0), (.slice none 0 0)] 171) (λ v12 h => ((LoopS [(.int .i64 0)] h (S61_l4 G K Kp v6 v5 v12 v9 v1)))) h)) Kp h) Kp h)
noncomputable def E61 : TE := mkE [R0, R3, R4, R23, R31, R40, R49, R134, R136, R142, R168, R171, R174] false (.any)
theorem T61 : TOk Tryz.prog E61 := mkE_ok (AllOk.mem (⟨R0_ok, R3_ok, R4_ok, R23_ok, R31_ok, R40_ok, R49_ok, R134_ok, R136_ok, R142_ok, R168_ok, R171_ok, R174_ok, trivial⟩ : AllOk Tryz.prog [R0, R3, R4, R23, R31, R40, R49, R134, R136, R142, R168, R171, R174]))
def ann61 : Nat -> LAnn := λ k => (bif Nat.beq k 4 then ⟨[(23, .int .i64)], [9, 24, 25, 26, 27, 28, 29, 30]⟩ else ⟨[], []⟩)
theorem vc61 {v1 : Option Addr} :
  S61 G K Kp v1 h = vcC E61 Tryz.prog G 42 ann61 Kp (bodyOf Tryz.f61) (retQ E61 G Tryz.f61.results.toList K) (frmA (#[(.pointer v1)] : Array Value).toList 0) h := by kernel_rfl
theorem b61 : bOk Tryz.prog 61 Tryz.f61 42 ann61 = true := by kernel_rfl
theorem S61_ok {v1 : Option Addr} (hh : S61 G K Kp v1 h) :
  CallF Tryz.prog G 61 #[(.pointer v1)] K Kp h :=
 callF_b T61 hmix Tryz.func61 Tryz.ntmps61 b61 (by kernel_rfl) (Eq.mp vc61 hh)
def S47_k2 (G : Heap) (K : Value -> Heap -> Prop) (Kp : PK) (v2 : Option Addr) (v12 : Bool) (h : Heap) : Prop :=
 K (.tuple #[(.pointer v2), (.bool v12)]) h
def S47_k1 (G : Heap) (K : Value -> Heap -> Prop) (Kp : PK) (v2 : Option Addr) (v1 : Int) (v7 : Bool) (h : Heap) : Prop :=
 If v7 ((K (.tuple #[(.pointer v2), (.bool false)]) h)) ((CallF Tryz.prog G 69 #[(.pointer v2), (.agg #[(.int .i64 4), (.int .i64 1), (.int .i64 v1), (.int .i64 0), (.int .i64 0), (.int .i64 0), (.int .i64 0), (.int .i64 0), (.int .i64 0), (.int .i64 0), (.int .i64 0), (.int .u8 0), (.int .i64 0), (.int .i64 0)])] (λ v11 h => ∃ v8, v11 = (.bool v8) /\ If v8 (CallF Tryz.prog G 69 #[(.pointer v2), (.agg #[(.int .i64 6), (.int .i64 1), (.int .i64 v1), (.int .i64 0), (.int .i64 0), (.int .i64 0), (.int .i64 0), (.int .i64 0), (.int .i64 0), (.int .i64 0), (.int .i64 0), (.int .u8 0), (.int .i64 0), (.int .i64 0)])] (λ v10 h => ∃ v9, v10 = (.bool v9) /\ (S47_k2 G K Kp v2 v9 h)) Kp h) ((S47_k2 G K Kp v2 false h))) Kp h))
def S47 (G : Heap) (K : Value -> Heap -> Prop) (Kp : PK) (v1 : Int) (h : Heap) : Prop :=
 (CallF Tryz.prog G 68 #[(.int .i64 v1)] (λ v4 h => ∃ v2 v3, v4 = (.tuple #[(.pointer v2), (.int .i64 v3)]) /\ (If v2.isNone ((S47_k1 G K Kp v2 v1 true h)) (CallF Tryz.prog G 13 #[(.int .i64 v3)] (λ v6 h => ∃ v5, v6 = (.int .i64 v5) /\ (S47_k1 G K Kp v2 v1 (v5 != 0) h)) Kp h))) Kp h)
noncomputable def E47 : TE := mkE [R3, R4, R29, R84, R146, R150] false (.any)
theorem T47 : TOk Tryz.prog E47 := mkE_ok (AllOk.mem (⟨R3_ok, R4_ok, R29_ok, R84_ok, R146_ok, R150_ok, trivial⟩ : AllOk Tryz.prog [R3, R4, R29, R84, R146, R150]))
def ann47 : Nat -> LAnn := λ _ => ⟨[], []⟩
theorem vc47 {v1 : Int} :
  S47 G K Kp v1 h = vcC E47 Tryz.prog G 30 ann47 Kp (bodyOf Tryz.f47) (retQ E47 G Tryz.f47.results.toList K) (frmA (#[(.int .i64 v1)] : Array Value).toList 0) h := by kernel_rfl
theorem b47 : bOk Tryz.prog 47 Tryz.f47 30 ann47 = true := by kernel_rfl
theorem S47_ok {v1 : Int} (hh : S47 G K Kp v1 h) :
  CallF Tryz.prog G 47 #[(.int .i64 v1)] K Kp h :=
 callF_b T47 hmix Tryz.func47 Tryz.ntmps47 b47 (by kernel_rfl) (Eq.mp vc47 hh)
def S110_k2 (G : Heap) (K : Value -> Heap -> Prop) (Kp : PK) (v1 : Option Addr) (v3 : Int)  (h : Heap) : Prop :=
 NN v1 λ v17 => LdSl G h v17 λ v18 v19 v20 => Rq ((0 : Int) <= v3 /\ v3 <= (v19 : Int)) (CallF Tryz.prog G 146 #[(.slice (subA v18 (Int.toNat v3) v20 6) (v19 - (Int.toNat v3)) (v20 - (Int.toNat v3)))] (λ v25 h => ∃ v21 v22 v23, v25 = (.slice v21 v22 v23) /\ NN v1 λ v24 => st1 v24 (.slice v21 v22 v23) (λ h => ((K (.int .i64 v3) h))) h) Kp h)
def S110_k1 (G : Heap) (K : Value -> Heap -> Prop) (Kp : PK) (v3 : Int) (v4 : List Value -> Heap -> Prop) (v1 : Option Addr) (v16 : Bool) (h : Heap) : Prop :=
 If v16 ((Rng (v3 + 1) (v4 [(.int .i64 (v3 + 1))] h))) ((S110_k2 G K Kp v1 v3 h))
def S110_l2 (G : Heap) (K : Value -> Heap -> Prop) (Kp : PK) (v1 : Option Addr) (v2 : Int) (_ : Nat -> Value) (v5 : List Value) (v4 : List Value -> Heap -> Prop) (h : Heap) : Prop :=
 ∃ v3, v5 = [(.int .i64 v3)] /\ NN v1 λ v6 => LdSl G h v6 λ v7 v8 v9 => If (decide (v3 < ((v8 : Nat) : Int))) (NN v1 λ v10 => LdSl G h v10 λ v11 v12 v13 => Rq ((0 : Int) <= v3 /\ v3 < ((v12 : Nat) : Int)) (NN v11 λ v14 => LdI G h .i64 (Addr.add v14 (Int.toNat v3 * 6)) λ v15 => (S110_k1 G K Kp v3 v4 v1 (decide (v15 <= v2)) h))) ((S110_k1 G K Kp v3 v4 v1 false h))
def S110 (G : Heap) (K : Value -> Heap -> Prop) (Kp : PK) (v1 : Option Addr) (v2 : Int) (h : Heap) : Prop :=
 ((LoopS [(.int .i64 0)] h (S110_l2 G K Kp v1 v2)))
noncomputable def E110 : TE := mkE [R3, R218, R221, R225] false (.any)
theorem T110 : TOk Tryz.prog E110 := mkE_ok (AllOk.mem (⟨R3_ok, R218_ok, R221_ok, R225_ok, trivial⟩ : AllOk Tryz.prog [R3, R218, R221, R225]))
def ann110 : Nat -> LAnn := λ k => (bif Nat.beq k 2 then ⟨[(5, .int .i64)], [6, 7, 8, 9, 10, 11, 12, 13, 14, 15, 16, 17, 18, 19, 20, 21, 22, 23, 24, 25, 26]⟩ else ⟨[], []⟩)
theorem vc110 {v1 : Option Addr} {v2 : Int} :
  S110 G K Kp v1 v2 h = vcC E110 Tryz.prog G 38 ann110 Kp (bodyOf Tryz.f110) (retQ E110 G Tryz.f110.results.toList K) (frmA (#[(.pointer v1), (.int .i64 v2)] : Array Value).toList 0) h := by kernel_rfl
theorem b110 : bOk Tryz.prog 110 Tryz.f110 38 ann110 = true := by kernel_rfl
theorem S110_ok {v1 : Option Addr} {v2 : Int} (hh : S110 G K Kp v1 v2 h) :
  CallF Tryz.prog G 110 #[(.pointer v1), (.int .i64 v2)] K Kp h :=
 callF_b T110 hmix Tryz.func110 Tryz.ntmps110 b110 (by kernel_rfl) (Eq.mp vc110 hh)
def S85 (G : Heap) (K : Value -> Heap -> Prop) (Kp : PK) (v1 : Option Addr) (v2 : Option Addr) (v3 : Nat) (v4 : Nat) (h : Heap) : Prop :=
 NN v1 λ v5 => LdSl G h (ad v5 1) λ v6 v7 v8 => newK G (.cells #[(.slice v2 v3 v4)] 49) (λ v9 h => slV Tryz.prog G (Builtin.append_ #[142, 142] 142 #[(.slice v6 v7 v8), (.slice (some ⟨v9, 0, none⟩) 1 1)]) (λ v14 h => ∃ v10 v11 v12, v14 = (.slice v10 v11 v12) /\ NN v1 λ v13 => st1 (ad v13 1) (.slice v10 v11 v12) (λ h => (NN v1 λ v15 => LdSl G h (ad v15 2) λ v16 v17 v18 => CallF Tryz.prog G 91 #[(.pointer v1)] (λ v26 h => ∃ v19, v26 = (.int .i64 v19) /\ hcell (rd G h) (ad v15 2) = some (.slice v16 v17 v18) /\ Rng (v19 + ((v3 : Nat) : Int)) (Rng ((v19 + ((v3 : Nat) : Int)) + 8) (newK G (.cells #[(.int .i64 ((v19 + ((v3 : Nat) : Int)) + 8))] 3) (λ v20 h => hcell (rd G h) (ad v15 2) = some (.slice v16 v17 v18) /\ slV Tryz.prog G (Builtin.append_ #[23, 23] 23 #[(.slice v16 v17 v18), (.slice (some ⟨v20, 0, none⟩) 1 1)]) (λ v25 h => ∃ v21 v22 v23, v25 = (.slice v21 v22 v23) /\ NN v1 λ v24 => st1 (ad v24 2) (.slice v21 v22 v23) (λ h => K (.tuple #[]) h) h) Kp h) h))) Kp h)) h) Kp h) h
noncomputable def E85 : TE := mkE [R3, R23, R49, R142, R171] false (.any)
theorem T85 : TOk Tryz.prog E85 := mkE_ok (AllOk.mem (⟨R3_ok, R23_ok, R49_ok, R142_ok, R171_ok, trivial⟩ : AllOk Tryz.prog [R3, R23, R49, R142, R171]))
def ann85 : Nat -> LAnn := λ _ => ⟨[], []⟩
theorem vc85 {v1 : Option Addr} {v2 : Option Addr} {v3 : Nat} {v4 : Nat} :
  S85 G K Kp v1 v2 v3 v4 h = vcC E85 Tryz.prog G 29 ann85 Kp (bodyOf Tryz.f85) (retQ E85 G Tryz.f85.results.toList K) (frmA (#[(.pointer v1), (.slice v2 v3 v4)] : Array Value).toList 0) h := by kernel_rfl
theorem b85 : bOk Tryz.prog 85 Tryz.f85 29 ann85 = true := by kernel_rfl
theorem S85_ok {v1 : Option Addr} {v2 : Option Addr} {v3 : Nat} {v4 : Nat} (hh : S85 G K Kp v1 v2 v3 v4 h) :
  CallF Tryz.prog G 85 #[(.pointer v1), (.slice v2 v3 v4)] K Kp h :=
 callF_b T85 hmix Tryz.func85 Tryz.ntmps85 b85 (by kernel_rfl) (Eq.mp vc85 hh)
def S180_k1 (G : Heap) (K : Value -> Heap -> Prop) (Kp : PK) (v7 : Int)  (h : Heap) : Prop :=
 (K (.int .u32 v7) h)
def S180_l3 (G : Heap) (K : Value -> Heap -> Prop) (Kp : PK) (v4 : Nat) (v3 : Option Addr) (_ : Nat -> Value) (v10 : List Value) (v9 : List Value -> Heap -> Prop) (h : Heap) : Prop :=
 ∃ v7 v8, v10 = [(.int .u32 v7), (.int .i64 v8)] /\ (If (decide (v8 < ((v4 : Nat) : Int))) ((Rq ((0 : Int) <= v8 /\ v8 < ((v4 : Nat) : Int)) (NN v3 λ v11 => LdI G h .u8 (Addr.add v11 (Int.toNat v8 * 1)) λ v12 => (Rq ((0 : Int) <= 8) ((Rng (v8 + 1) (v9 [(.int .u32 (bitsI .or .u32 (IntKind.wrap .u32 (v7 * 2 ^ 8)) (IntKind.wrap .u32 v12))), (.int .i64 (v8 + 1))] h))))))) ((S180_k1 G K Kp v7 h)))
def S180 (G : Heap) (K : Value -> Heap -> Prop) (Kp : PK) (v1 : Option Addr) (v2 : Int) (h : Heap) : Prop :=
 ((CallF Tryz.prog G 186 #[(.pointer v1), (.int .i64 v2)] (λ v6 h => ∃ v3 v4 v5, v6 = (.slice v3 v4 v5) /\ (LoopS [(.int .u32 0), (.int .i64 0)] h (S180_l3 G K Kp v4 v3))) Kp h))
noncomputable def E180 : TE := mkE [R5, R49, R239] false (.any)
theorem T180 : TOk Tryz.prog E180 := mkE_ok (AllOk.mem (⟨R5_ok, R49_ok, R239_ok, trivial⟩ : AllOk Tryz.prog [R5, R49, R239]))
def ann180 : Nat -> LAnn := λ k => (bif Nat.beq k 3 then ⟨[(5, .int .u32), (12, .int .i64)], [7, 13, 14, 15, 16, 17, 18, 19, 20, 21]⟩ else ⟨[], []⟩)
theorem vc180 {v1 : Option Addr} {v2 : Int} :
  S180 G K Kp v1 v2 h = vcC E180 Tryz.prog G 23 ann180 Kp (bodyOf Tryz.f180) (retQ E180 G Tryz.f180.results.toList K) (frmA (#[(.pointer v1), (.int .i64 v2)] : Array Value).toList 0) h := by kernel_rfl
theorem b180 : bOk Tryz.prog 180 Tryz.f180 23 ann180 = true := by kernel_rfl
theorem S180_ok {v1 : Option Addr} {v2 : Int} (hh : S180 G K Kp v1 v2 h) :
  CallF Tryz.prog G 180 #[(.pointer v1), (.int .i64 v2)] K Kp h :=
 callF_b T180 hmix Tryz.func180 Tryz.ntmps180 b180 (by kernel_rfl) (Eq.mp vc180 hh)
def S162_k1 (G : Heap) (K : Value -> Heap -> Prop) (Kp : PK) (v4 : Int)  (h : Heap) : Prop :=
 (K (.int .i64 v4) h)
def S162_l3 (G : Heap) (K : Value -> Heap -> Prop) (Kp : PK) (v2 : Nat) (v1 : Option Addr) (_ : Nat -> Value) (v7 : List Value) (v6 : List Value -> Heap -> Prop) (h : Heap) : Prop :=
 ∃ v4 v5, v7 = [(.int .i64 v4), (.int .i64 v5)] /\ (If (decide (v5 < ((v2 : Nat) : Int))) ((Rq ((0 : Int) <= v5 /\ v5 < ((v2 : Nat) : Int)) (NN v1 λ v8 => LdI G h .i64 (Addr.add v8 (Int.toNat v5 * 1)) λ v9 => (Rq ((0 : Int) <= v9 /\ v9 < ((14 : Nat) : Int)) (LdI G h .i64 (Addr.add ⟨4, 0, none⟩ (Int.toNat v9 * 1)) λ v10 => Rng (v4 + v10) ((Rng (v5 + 1) (v6 [(.int .i64 (v4 + v10)), (.int .i64 (v5 + 1))] h)))))))) ((S162_k1 G K Kp v4 h)))
def S162 (G : Heap) (K : Value -> Heap -> Prop) (Kp : PK) (v1 : Option Addr) (v2 : Nat) (v3 : Nat) (h : Heap) : Prop :=
 (((LoopS [(.int .i64 1), (.int .i64 0)] h (S162_l3 G K Kp v2 v1))))
noncomputable def E162 : TE := mkE [R3, R23, R201] false (.any)
theorem T162 : TOk Tryz.prog E162 := mkE_ok (AllOk.mem (⟨R3_ok, R23_ok, R201_ok, trivial⟩ : AllOk Tryz.prog [R3, R23, R201]))
def ann162 : Nat -> LAnn := λ k => (bif Nat.beq k 3 then ⟨[(3, .int .i64), (8, .int .i64)], [5, 9, 10, 11, 12, 13, 14, 15, 16, 17]⟩ else ⟨[], []⟩)
theorem vc162 {v1 : Option Addr} {v2 : Nat} {v3 : Nat} :
  S162 G K Kp v1 v2 v3 h = vcC E162 Tryz.prog G 19 ann162 Kp (bodyOf Tryz.f162) (retQ E162 G Tryz.f162.results.toList K) (frmA (#[(.slice v1 v2 v3)] : Array Value).toList 0) h := by kernel_rfl
theorem b162 : bOk Tryz.prog 162 Tryz.f162 19 ann162 = true := by kernel_rfl
theorem S162_ok {v1 : Option Addr} {v2 : Nat} {v3 : Nat} (hh : S162 G K Kp v1 v2 v3 h) :
  CallF Tryz.prog G 162 #[(.slice v1 v2 v3)] K Kp h :=
 callF_b T162 hmix Tryz.func162 Tryz.ntmps162 b162 (by kernel_rfl) (Eq.mp vc162 hh)
def S73 (G : Heap) (K : Value -> Heap -> Prop) (Kp : PK) (v1 : Option Addr) (h : Heap) : Prop :=
 NN v1 λ v2 => LdI G h .i64 (ad v2 1) λ v3 => Rng (v3 + 1) (NN v1 λ v4 => st1 (ad v4 1) (.int .i64 (v3 + 1)) (λ h => (NN v1 λ v5 => LdSl G h (ad v5 2) λ v6 v7 v8 => NN v1 λ v9 => LdSl G h (ad v9 3) λ v10 v11 v12 => newK G (.cells #[(.int .i64 ((v11 : Nat) : Int))] 3) (λ v13 h => hcell (rd G h) (ad v5 2) = some (.slice v6 v7 v8) /\ slV Tryz.prog G (Builtin.append_ #[23, 23] 23 #[(.slice v6 v7 v8), (.slice (some ⟨v13, 0, none⟩) 1 1)]) (λ v18 h => ∃ v14 v15 v16, v18 = (.slice v14 v15 v16) /\ NN v1 λ v17 => st1 (ad v17 2) (.slice v14 v15 v16) (λ h => K (.tuple #[]) h) h) Kp h) h)) h)
noncomputable def E73 : TE := mkE [R3, R23, R33, R131] false (.any)
theorem T73 : TOk Tryz.prog E73 := mkE_ok (AllOk.mem (⟨R3_ok, R23_ok, R33_ok, R131_ok, trivial⟩ : AllOk Tryz.prog [R3, R23, R33, R131]))
def ann73 : Nat -> LAnn := λ _ => ⟨[], []⟩
theorem vc73 {v1 : Option Addr} :
  S73 G K Kp v1 h = vcC E73 Tryz.prog G 23 ann73 Kp (bodyOf Tryz.f73) (retQ E73 G Tryz.f73.results.toList K) (frmA (#[(.pointer v1)] : Array Value).toList 0) h := by kernel_rfl
theorem b73 : bOk Tryz.prog 73 Tryz.f73 23 ann73 = true := by kernel_rfl
theorem S73_ok {v1 : Option Addr} (hh : S73 G K Kp v1 h) :
  CallF Tryz.prog G 73 #[(.pointer v1)] K Kp h :=
 callF_b T73 hmix Tryz.func73 Tryz.ntmps73 b73 (by kernel_rfl) (Eq.mp vc73 hh)
def S93_k1 (G : Heap) (K : Value -> Heap -> Prop) (Kp : PK) (v1 : Int) (v2 : Bool) (h : Heap) : Prop :=
 If v2 ((K (.tuple #[(.pointer none), (.int .i64 80)]) h)) ((newK G (.cells #[(.int .i64 v1), (.int .i64 0), (.int .i64 0), (.slice none 0 0)] 261) (λ v3 h => (K (.tuple #[(.pointer (some ⟨v3, 0, none⟩)), (.int .i64 0)]) h)) h))
def S93 (G : Heap) (K : Value -> Heap -> Prop) (Kp : PK) (v1 : Int) (h : Heap) : Prop :=
 (If (decide (v1 < 1)) ((S93_k1 G K Kp v1 true h)) ((S93_k1 G K Kp v1 (decide (v1 > 4096)) h)))
noncomputable def E93 : TE := mkE [R3, R33, R261] false (.any)
theorem T93 : TOk Tryz.prog E93 := mkE_ok (AllOk.mem (⟨R3_ok, R33_ok, R261_ok, trivial⟩ : AllOk Tryz.prog [R3, R33, R261]))
def ann93 : Nat -> LAnn := λ _ => ⟨[], []⟩
theorem vc93 {v1 : Int} :
  S93 G K Kp v1 h = vcC E93 Tryz.prog G 13 ann93 Kp (bodyOf Tryz.f93) (retQ E93 G Tryz.f93.results.toList K) (frmA (#[(.int .i64 v1)] : Array Value).toList 0) h := by kernel_rfl
theorem b93 : bOk Tryz.prog 93 Tryz.f93 13 ann93 = true := by kernel_rfl
theorem S93_ok {v1 : Int} (hh : S93 G K Kp v1 h) :
  CallF Tryz.prog G 93 #[(.int .i64 v1)] K Kp h :=
 callF_b T93 hmix Tryz.func93 Tryz.ntmps93 b93 (by kernel_rfl) (Eq.mp vc93 hh)
def S234_k1 (G : Heap) (K : Value -> Heap -> Prop) (Kp : PK) (v1 : Int) (v4 : Bool) (h : Heap) : Prop :=
 If v4 (Rng (v1 + 1) ((K (.tuple #[(.int .i64 (v1 + 1)), (.bool true)]) h))) (((K (.tuple #[(.int .i64 v1), (.bool true)]) h)))
def S234 (G : Heap) (K : Value -> Heap -> Prop) (Kp : PK) (v1 : Int) (v2 : Int) (v3 : Bool) (h : Heap) : Prop :=
 (If (decide (v2 < v1)) ((S234_k1 G K Kp v1 true h)) (If (v2 == v1) ((S234_k1 G K Kp v1 (!v3) h)) ((S234_k1 G K Kp v1 false h))))
noncomputable def E234 : TE := mkE [R3] false (.any)
theorem T234 : TOk Tryz.prog E234 := mkE_ok (AllOk.mem (⟨R3_ok, trivial⟩ : AllOk Tryz.prog [R3]))
def ann234 : Nat -> LAnn := λ _ => ⟨[], []⟩
theorem vc234 {v1 : Int} {v2 : Int} {v3 : Bool} :
  S234 G K Kp v1 v2 v3 h = vcC E234 Tryz.prog G 23 ann234 Kp (bodyOf Tryz.f234) (retQ E234 G Tryz.f234.results.toList K) (frmA (#[(.int .i64 v1), (.int .i64 v2), (.bool v3)] : Array Value).toList 0) h := by kernel_rfl
theorem b234 : bOk Tryz.prog 234 Tryz.f234 23 ann234 = true := by kernel_rfl
theorem S234_ok {v1 : Int} {v2 : Int} {v3 : Bool} (hh : S234 G K Kp v1 v2 v3 h) :
  CallF Tryz.prog G 234 #[(.int .i64 v1), (.int .i64 v2), (.bool v3)] K Kp h :=
 callF_b T234 hmix Tryz.func234 Tryz.ntmps234 b234 (by kernel_rfl) (Eq.mp vc234 hh)
def S172 (G : Heap) (K : Value -> Heap -> Prop) (Kp : PK) (v1 : Option Addr) (h : Heap) : Prop :=
 NN v1 λ v2 => st1 (ad v2 3) (.slice none 0 0) (λ h => (NN v1 λ v3 => st1 (ad v3 1) (.int .i64 0) (λ h => (NN v1 λ v4 => st1 (ad v4 2) (.int .i64 0) (λ h => K (.tuple #[]) h) h)) h)) h
noncomputable def E172 : TE := mkE [R3, R33, R261] false (.any)
theorem T172 : TOk Tryz.prog E172 := mkE_ok (AllOk.mem (⟨R3_ok, R33_ok, R261_ok, trivial⟩ : AllOk Tryz.prog [R3, R33, R261]))
def ann172 : Nat -> LAnn := λ _ => ⟨[], []⟩
theorem vc172 {v1 : Option Addr} :
  S172 G K Kp v1 h = vcC E172 Tryz.prog G 11 ann172 Kp (bodyOf Tryz.f172) (retQ E172 G Tryz.f172.results.toList K) (frmA (#[(.pointer v1)] : Array Value).toList 0) h := by kernel_rfl
theorem b172 : bOk Tryz.prog 172 Tryz.f172 11 ann172 = true := by kernel_rfl
theorem S172_ok {v1 : Option Addr} (hh : S172 G K Kp v1 h) :
  CallF Tryz.prog G 172 #[(.pointer v1)] K Kp h :=
 callF_b T172 hmix Tryz.func172 Tryz.ntmps172 b172 (by kernel_rfl) (Eq.mp vc172 hh)
def S182 (G : Heap) (K : Value -> Heap -> Prop) (Kp : PK) (v1 : Option Addr) (h : Heap) : Prop :=
 (CallF Tryz.prog G 180 #[(.pointer v1), (.int .i64 1)] (λ v3 h => ∃ v2, v3 = (.int .u32 v2) /\ (K (.int .i64 (IntKind.wrap .i64 v2)) h)) Kp h)
noncomputable def E182 : TE := mkE [R3, R239] false (.any)
theorem T182 : TOk Tryz.prog E182 := mkE_ok (AllOk.mem (⟨R3_ok, R239_ok, trivial⟩ : AllOk Tryz.prog [R3, R239]))
def ann182 : Nat -> LAnn := λ _ => ⟨[], []⟩
theorem vc182 {v1 : Option Addr} :
  S182 G K Kp v1 h = vcC E182 Tryz.prog G 6 ann182 Kp (bodyOf Tryz.f182) (retQ E182 G Tryz.f182.results.toList K) (frmA (#[(.pointer v1)] : Array Value).toList 0) h := by kernel_rfl
theorem b182 : bOk Tryz.prog 182 Tryz.f182 6 ann182 = true := by kernel_rfl
theorem S182_ok {v1 : Option Addr} (hh : S182 G K Kp v1 h) :
  CallF Tryz.prog G 182 #[(.pointer v1)] K Kp h :=
 callF_b T182 hmix Tryz.func182 Tryz.ntmps182 b182 (by kernel_rfl) (Eq.mp vc182 hh)
def S157 (G : Heap) (K : Value -> Heap -> Prop) (Kp : PK) (v1 : Option Addr) (h : Heap) : Prop :=
 (NN v1 λ v2 => LdV G h (ad v2 2) λ v3 => (K v3 h))
noncomputable def E157 : TE := mkE [R78, R318] false (.any)
theorem T157 : TOk Tryz.prog E157 := mkE_ok (AllOk.mem (⟨R78_ok, R318_ok, trivial⟩ : AllOk Tryz.prog [R78, R318]))
def ann157 : Nat -> LAnn := λ _ => ⟨[], []⟩
theorem vc157 {v1 : Option Addr} :
  S157 G K Kp v1 h = vcC E157 Tryz.prog G 7 ann157 Kp (bodyOf Tryz.f157) (retQ E157 G Tryz.f157.results.toList K) (frmA (#[(.pointer v1)] : Array Value).toList 0) h := by kernel_rfl
theorem b157 : bOk Tryz.prog 157 Tryz.f157 7 ann157 = true := by kernel_rfl
theorem S157_ok {v1 : Option Addr} (hh : S157 G K Kp v1 h) :
  CallF Tryz.prog G 157 #[(.pointer v1)] K Kp h :=
 callF_b T157 hmix Tryz.func157 Tryz.ntmps157 b157 (by kernel_rfl) (Eq.mp vc157 hh)
end Go.Sl
