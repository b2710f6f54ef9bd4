/- P18.7: the changes turn the one text into the other. Part 1 of 12. -/
import Derived.Calls
import Derived.Tactics
import Derived.Laws.StructEq
import Derived.Orders
import Derived.Scope
set_option linter.unusedVariables false
set_option linter.unusedSimpArgs false
set_option linter.unusedSectionVars false
namespace Go.Sl
open Go
abbrev Heap := Nat -> Option Obj
def hupd (h : Heap) (r : Nat) (o : Obj) : Heap := λ n => if n = r then some o else h n
def rd (G h : Heap) : Heap := λ n => match h n with | some o => some o | none => G n
structure RF where
 f : Heap
 os : Os
 out : Array (Nat × ByteArray)
instance : CoeFun RF λ _ => Heap := ⟨RF.f⟩
structure Fr (G : Heap) (w : World) (h : Heap) (F : RF) : Prop where
 apart : ∀ n, h n = none ∨ F n = none
 own : ∀ n o, h n = some o -> w.heap[n]? = some o
 rest : ∀ n o, F n = some o -> w.heap[n]? = some o
 glob : ∀ n o, G n = some o -> w.heap[n]? = some o /\ h n = none
 same : w.os = F.os /\ w.output = F.out
def ocell (o : Obj) (a : Addr) : Option Value :=
 match o with
 | .cells c _ _ => if a.spot.isSome then none else c[a.off]?
 | _ => none
def hcell (h : Heap) (a : Addr) : Option Value := (h a.block).bind (ocell · a)
def oset (o : Obj) (off : Nat) (v : Value) : Obj :=
 match o with
 | .cells c t fz => .cells (c.setIfInBounds off v) t fz
 | o => o
def oshape (o : Obj) : Option (TypeId × Nat) :=
 match o with
 | .cells c t _ => some (t, c.size)
 | _ => none
def ofrozen (o : Obj) (off : Nat) : Bool :=
 match o with
 | .cells _ _ (lo, hi) => lo <= off && off < hi
 | _ => false
def ofreeze (o : Obj) (off n : Nat) : Obj :=
 match o with
 | .cells c t (lo, hi) => .cells c t (if lo == hi then (off, off + n) else (min lo off, max hi (off + n)))
 | o => o
def ocells : Obj -> Bool
 | .cells .. => true
 | _ => false
def plainV : Value -> Bool
 | .agg _ | .tuple _ => false
 | _ => true
def sl (P : Program) (G : Heap) {α : Type} : Sem α -> (α -> Heap -> Prop) -> (Value -> Heap -> Prop) -> Heap -> Prop
 | .pure a, K, _, h => K a h
 | .load _ a k, K, Kp, h => ∃ v, hcell (rd G h) a = some v /\ sl P G (k v) K Kp h
 | .store _ a v k, K, Kp, h => plainV v = true /\ ∃ o, h a.block = some o /\ (∃ u, ocell o a = some u) /\ ofrozen o a.off = false /\ sl P G k K Kp (hupd h a.block (oset o a.off v))
 | .new o k, K, Kp, h => ∀ r, h r = none -> G r = none -> sl P G (k r) K Kp (hupd h r o)
 | .shape r k, K, Kp, h => ∃ o, rd G h r = some o /\ sl P G (k (oshape o)) K Kp h
 | .freeze a n k, K, Kp, h => if n = 0 then sl P G k K Kp h else ∃ o, h a.block = some o /\ sl P G k K Kp (hupd h a.block (ofreeze o a.off n))
 | .frozen a k, K, Kp, h => ∃ o, rd G h a.block = some o /\ sl P G (k (ofrozen o a.off)) K Kp h
 | .getObj r k, K, Kp, h => ∃ o, rd G h r = some o /\ ocells o = false /\ sl P G (k o) K Kp h
 | .setObj r o k, K, Kp, h => ∃ o', h r = some o' /\ ocells o' = false /\ sl P G k K Kp (hupd h r o)
 | .choose q k, K, Kp, h => if q.forced then sl P G (k 0) K Kp h else ∀ t, sl P G (k (q.cut t)) K Kp h
 | .sys _ _, _, _, _ => False
 | .program k, K, Kp, h => sl P G (k P) K Kp h
 | .mark _ k, K, Kp, h => sl P G k K Kp h
 | .halt (.panic v), _, Kp, h => Kp v h
 | .halt _, _, _, _ => False
theorem Fr.read {G : Heap} {w : World} {h : Heap} {F : RF} (f : Fr G w h F) {r : Nat} {o : Obj} (hr : rd G h r = some o) : w.heap[r]? = some o := by
 unfold rd at hr
 split at hr
 ·rename_i o' ho; cases hr; exact f.own _ _ ho
 ·exact (f.glob _ _ hr).1
theorem Fr.cell {G : Heap} {w : World} {h : Heap} {F : RF} (f : Fr G w h F) {a : Addr} {v : Value} (hc : hcell (rd G h) a = some v) : w.cell? a = some v := by
 unfold hcell at hc
 cases hb : rd G h a.block with
 | none => simp [hb] at hc
 | some o =>
  have := f.read hb
  simp only [hb, Option.bind_some] at hc
  unfold World.cell?
  rw [this]
  cases o <;> simp_all [ocell]
theorem Fr.size {G : Heap} {w : World} {h : Heap} {F : RF} (f : Fr G w h F) : h w.heap.size = none /\ F w.heap.size = none /\ G w.heap.size = none := by
 refine ⟨?_, ?_, ?_⟩
 ·cases hb : h w.heap.size with
  | none => rfl
  | some o => have := f.own _ _ hb; simp at this
 ·cases hb : F w.heap.size with
  | none => rfl
  | some o => have := f.rest _ _ hb; simp at this
 ·cases hb : G w.heap.size with
  | none => rfl
  | some o => have := (f.glob _ _ hb).1; simp at this
theorem Fr.push {G : Heap} {w : World} {h : Heap} {F : RF} (f : Fr G w h F) (o : Obj) : Fr G { w with heap := w.heap.push o } (hupd h w.heap.size o) F := by
 have old : ∀ n o', w.heap[n]? = some o' -> n ≠ w.heap.size /\ (w.heap.push o)[n]? = some o' := λ n o' hn => by
  have hlt : n < w.heap.size := (Array.getElem?_eq_some_iff.1 hn).1
  have e : n ≠ w.heap.size := by omega
  exact ⟨e, by simp only [Array.getElem?_push, if_neg e]; exact hn⟩
 refine ⟨λ n => ?_, λ n o' hn => ?_, λ n o' hn => ?_, λ n o' hn => ?_, f.same⟩
 ·by_cases e : n = w.heap.size
  ·subst e; exact .inr f.size.2.1
  ·simp only [hupd, if_neg e]; exact f.apart n
 ·by_cases e : n = w.heap.size
  ·subst e; simp [hupd] at hn; subst hn; simp
  ·simp only [hupd, if_neg e] at hn
   exact (old _ _ (f.own _ _ hn)).2
 ·exact (old _ _ (f.rest _ _ hn)).2
 ·obtain ⟨h1, h2⟩ := f.glob _ _ hn
  obtain ⟨e, h3⟩ := old _ _ h1
  exact ⟨h3, by simp only [hupd, if_neg e]; exact h2⟩
theorem Fr.setAt {G : Heap} {w : World} {h : Heap} {F : RF} (f : Fr G w h F) {r : Nat} {o : Obj} (hr : h r = some o) (g : Obj -> Obj) (w' : World)
  (hw : w'.heap = w.heap.modify r g) (hos : w'.os = w.os /\ w'.output = w.output := by exact ⟨rfl, rfl⟩) : Fr G w' (hupd h r (g o)) F := by
 have hF : F r = none := (f.apart r).resolve_left (by simp [hr])
 have old : ∀ n o', n ≠ r -> w.heap[n]? = some o' -> w'.heap[n]? = some o' := λ n o' e hn => by
  rw [hw, Array.getElem?_modify, if_neg (λ x => e x.symm)]; exact hn
 refine ⟨λ n => ?_, λ n o' hn => ?_, λ n o' hn => ?_, λ n o' hn => ?_, ⟨hos.1.trans f.same.1, hos.2.trans f.same.2⟩⟩
 ·by_cases e : n = r
  ·subst e; exact .inr hF
  ·simp only [hupd, if_neg e]; exact f.apart n
 ·by_cases e : n = r
  ·subst e; simp only [hupd, if_true, Option.some.injEq] at hn; subst hn
   have := f.own _ _ hr
   rw [hw]; simp [Array.getElem?_modify, this]
  ·simp only [hupd, if_neg e] at hn
   exact old _ _ e (f.own _ _ hn)
 ·have e : n ≠ r := λ e => by subst e; simp [hF] at hn
  exact old _ _ e (f.rest _ _ hn)
 ·obtain ⟨h1, h2⟩ := f.glob _ _ hn
  have e : n ≠ r := λ e => by subst e; simp [hr] at h2
  exact ⟨old _ _ e h1, by simp only [hupd, if_neg e]; exact h2⟩
theorem Fr.to {G : Heap} {w w' : World} {h : Heap} {F : RF} (f : Fr G w h F) (hw : w'.heap = w.heap) (hos : w'.os = w.os /\ w'.output = w.output := by exact ⟨rfl, rfl⟩) : Fr G w' h F :=
 ⟨f.apart, λ n o hn => by rw [hw]; exact f.own n o hn, λ n o hn => by rw [hw]; exact f.rest n o hn, λ n o hn => by rw [hw]; exact f.glob n o hn, ⟨hos.1.trans f.same.1, hos.2.trans f.same.2⟩⟩
theorem Fr.setCell {G : Heap} {w : World} {h : Heap} {F : RF} (f : Fr G w h F) {a : Addr} {o : Obj} (ho : h a.block = some o) {u : Value} (hc : ocell o a = some u) (v : Value) :
  Fr G (w.setCell a v) (hupd h a.block (oset o a.off v)) F := by
 have hs : a.spot = none := by
  cases hsp : a.spot with
  | none => rfl
  | some x => cases o <;> simp [ocell, hsp] at hc
 have := f.setAt (g := λ o => oset o a.off v) ho (w.setCell a v) (by
  unfold World.setCell
  simp only [hs]
  congr 1) (by unfold World.setCell; simp only [hs]; exact ⟨trivial, trivial⟩)
 exact this
theorem Fr.freeze {G : Heap} {w : World} {h : Heap} {F : RF} (f : Fr G w h F) {a : Addr} {o : Obj} (ho : h a.block = some o) (n : Nat) (hn : n ≠ 0) :
  Fr G (w.freeze a n) (hupd h a.block (ofreeze o a.off n)) F := by
 have := f.setAt (g := λ o => ofreeze o a.off n) ho (w.freeze a n) (by
  unfold World.freeze
  simp only [if_neg hn]
  congr 1) (by unfold World.freeze; simp only [if_neg hn]; exact ⟨trivial, trivial⟩)
 exact this
theorem Fr.setObj {G : Heap} {w : World} {h : Heap} {F : RF} (f : Fr G w h F) {r : Nat} {o' : Obj} (hr : h r = some o') (o : Obj) :
  Fr G { w with heap := w.heap.setIfInBounds r o } (hupd h r o) F := by
 refine f.setAt (g := λ _ => o) hr _ ?_
 have := f.own _ _ hr
 have hlt : r < w.heap.size := (Array.getElem?_eq_some_iff.1 this).1
 apply Array.ext_getElem?
 intro i
 simp only [Array.getElem?_setIfInBounds, Array.getElem?_modify]
 by_cases e : r = i
 ·subst e; simp [hlt]
 ·simp [e]
def Kept {α : Type} (P : Program) (s : Sem α) (K : α -> Heap -> Prop) (Kp : Value -> Heap -> Prop) (w : World) (es : Array Event) (F : RF) (G : Heap) : Prop :=
 False ∨
 (match s.run P w with | .ok a w' => ∃ h', K a h' /\ Fr G w' h' F | .halt (.panic v) w' => ∃ h', Kp v h' /\ Fr G w' h' F | _ => False)
theorem sl_run {P : Program} {α : Type} (s : Sem α) : ∀ {G : Heap} {K : α -> Heap -> Prop} {Kp : Value -> Heap -> Prop} {w : World} {h : Heap} {F : RF} (es : Array Event), Fr G w h F -> sl P G s K Kp h ->
  Kept P s K Kp w es F G := by
 induction s with
 | pure a => intro G K Kp w h F es f hs; exact .inr (by simp only [Sem.run]; exact ⟨h, by simpa only [sl] using hs, f⟩)
 | load m a k ih =>
  intro G K Kp w h F es f hs
  obtain ⟨v, hv, hk⟩ := hs
  have := ih v (es.push ⟨.cell a, false, m == .atomic⟩) f hk
  simpa only [Kept, Sem.run, Sem.runT, f.cell hv] using this
 | store m a v k ih =>
  intro G K Kp w h F es f hs
  obtain ⟨hp, o, ho, ⟨u, hu⟩, hz, hk⟩ := hs
  have hcell : w.cell? a = some u := f.cell (by simp [hcell, rd, ho, hu])
  have hfz : w.frozen? a = false := by
   unfold World.frozen?
   rw [f.own _ _ ho]
   cases o <;> simp_all [ofrozen]
  have := ih (es.push ⟨.cell a, true, m == .atomic⟩) (f.setCell ho hu v) hk
  have hr : (Sem.store m a v k).run P w = k.run P (w.setCell a v) := by
   cases v <;> first | (simp [plainV] at hp; done) | simp [Sem.run, hcell, hfz]
  have ht : (Sem.store m a v k).runT P w es = k.runT P (w.setCell a v) (es.push ⟨.cell a, true, m == .atomic⟩) := by
   cases v <;> first | (simp [plainV] at hp; done) | simp [Sem.runT, hcell, hfz]
  simpa only [Kept, hr, ht] using this
 | new o k ih =>
  intro G K Kp w h F es f hs
  have := ih _ es (f.push o) (hs _ f.size.1 f.size.2.2)
  simpa only [Kept, Sem.run, Sem.runT] using this
 | shape r k ih =>
  intro G K Kp w h F es f hs
  obtain ⟨o, ho, hk⟩ := hs
  have e : w.shape? r = oshape o := by
   unfold World.shape?; rw [f.read ho]; cases o <;> rfl
  have := ih _ es f hk
  simpa only [Kept, Sem.run, Sem.runT, e] using this
 | freeze a n k ih =>
  intro G K Kp w h F es f hs
  simp only [sl] at hs
  split at hs
  ·rename_i h0; subst h0
   have e : w.freeze a 0 = w := by simp [World.freeze]
   have := ih es f hs
   simpa only [Kept, Sem.run, Sem.runT, e] using this
  ·rename_i h0
   obtain ⟨o, ho, hk⟩ := hs
   have := ih es (f.freeze ho n h0) hk
   simpa only [Kept, Sem.run, Sem.runT] using this
 | frozen a k ih =>
  intro G K Kp w h F es f hs
  obtain ⟨o, ho, hk⟩ := hs
  have e : w.frozen? a = ofrozen o a.off := by
   unfold World.frozen?; rw [f.read ho]; cases o <;> simp [ofrozen]
  have := ih _ es f hk
  simpa only [Kept, Sem.run, Sem.runT, e] using this
 | getObj r k ih =>
  intro G K Kp w h F es f hs
  obtain ⟨o, ho, hc, hk⟩ := hs
  have := ih _ (es.push ⟨.obj r, false, o.isChan⟩) f hk
  have hr : (Sem.getObj r k).run P w = (k o).run P w := by
   have := f.read ho
   cases o <;> first | (simp [ocells] at hc; done) | simp [Sem.run, this]
  have ht : (Sem.getObj r k).runT P w es = (k o).runT P w (es.push ⟨.obj r, false, o.isChan⟩) := by
   have := f.read ho
   cases o <;> first | (simp [ocells] at hc; done) | simp only [Sem.runT, this]
  simpa only [Kept, hr, ht] using this
 | setObj r o k ih =>
  intro G K Kp w h F es f hs
  obtain ⟨o', ho, hc, hk⟩ := hs
  have := ih (es.push ⟨.obj r, true, o.isChan⟩) (f.setObj ho o) hk
  have hr : (Sem.setObj r o k).run P w = k.run P { w with heap := w.heap.setIfInBounds r o } := by
   have := f.own _ _ ho
   cases o' <;> first | (simp [ocells] at hc; done) | simp [Sem.run, this]
  have ht : (Sem.setObj r o k).runT P w es = k.runT P { w with heap := w.heap.setIfInBounds r o } (es.push ⟨.obj r, true, o.isChan⟩) := by
   have := f.own _ _ ho
   cases o' <;> first | (simp [ocells] at hc; done) | simp only [Sem.runT, this]
  simpa only [Kept, hr, ht] using this
 | choose q k ih =>
  intro G K Kp w h F es f hs
  simp only [sl] at hs
  split at hs
  ·rename_i hf
   have := ih 0 es f hs
   simpa only [Kept, Sem.run, Sem.runT, hf, if_true] using this
  ·rename_i hf
   have := ih (q.cut (w.tape w.drawn q)) es (f.to (w' := { w with drawn := w.drawn + 1 }) rfl) (hs _)
   simpa only [Kept, Sem.run, Sem.runT, hf, Bool.false_eq_true, if_false] using this
 | sys c k ih => intro G K Kp w h F es f hs; exact hs.elim
 | program k ih =>
  intro G K Kp w h F es f hs
  have := ih _ es f hs
  simpa only [Kept, Sem.run, Sem.runT] using this
 | mark m k ih =>
  intro G K Kp w h F es f hs
  have ih' : sl P G k K Kp h -> Kept P k K Kp w (es.push ⟨.mark m, false, true⟩) F G := λ hs' => ih _ f hs'
  have := ih' (by simpa only [sl] using hs)
  simpa only [Kept, Sem.run, Sem.runT] using this
 | halt x =>
  intro G K Kp w h F es f hs
  cases x with
  | panic v => exact .inr (by simp only [Sem.run]; exact ⟨h, by simpa only [sl] using hs, f⟩)
  | _ => simp only [sl] at hs
end Go.Sl
namespace Go.Sl
open Go
def pr (P : Program) {α : Type} : Sem α -> Option α
 | .pure a => some a
 | .program k => pr P (k P)
 | _ => none
theorem pr_run {P : Program} {α : Type} (s : Sem α) : ∀ {v : α}, pr P s = some v -> ∀ w, s.run P w = .ok v w := by
 induction s <;> intro v h w <;> simp only [pr, reduceCtorEq] at h
 case pure a => simp only [Option.some.injEq] at h; subst h; simp [Sem.run]
 case program k ih => simp only [Sem.run]; exact ih _ h w
theorem pr_sl {P : Program} {G : Heap} {α : Type} (s : Sem α) : ∀ {v : α}, pr P s = some v -> ∀ {K : α -> Heap -> Prop} {Kp : Value -> Heap -> Prop} {h : Heap}, K v h -> sl P G s K Kp h := by
 induction s <;> intro v h K Kp hh hk <;> simp only [pr, reduceCtorEq] at h
 case pure a => simp only [Option.some.injEq] at h; subst h; exact hk
 case program k ih => simp only [sl]; exact ih _ h hk
theorem pr_bind {P : Program} {α β : Type} (s : Sem α) (f : α -> Sem β) : pr P (s >>= f) = (pr P s).bind λ a => pr P (f a) := by
 show pr P (Sem.bind s f) = _
 induction s <;> simp_all [Sem.bind, pr]
theorem pr_pure {P : Program} {α : Type} (a : α) : pr P (pure a : Sem α) = some a := rfl
theorem pr_program {P : Program} : pr P program = some P := rfl
theorem pr_map {P : Program} {α β : Type} (s : Sem α) (f : α -> β) : pr P (f <$> s) = (pr P s).map f := by
 show pr P (Sem.bind s λ a => Sem.pure (f a)) = _
 induction s <;> simp_all [Sem.bind, pr]
theorem pr_underlying {P : Program} {t : TypeId} {d : TypeDesc} (h : P.underlying t = some d) : pr P (underlying t) = some d := by
 unfold underlying
 rw [pr_bind, pr_program]
 simp only [Option.bind_some, h, pr_pure]
inductive Ty where
 | int (k : IntKind) | bool | str | ptr | slice | map | any
 | agg (l : List Ty) | tup (l : List Ty)
mutual
def gen1 : Ty -> (Value -> Prop) -> Prop
 | .int k, p => ∃ n, p (.int k n)
 | .bool, p => ∃ b, p (.bool b)
 | .str, p => ∃ s, p (.string s)
 | .ptr, p => ∃ a, p (.pointer a)
 | .slice, p => ∃ a l c, p (.slice a l c)
 | .map, p => ∃ r, p (.map r)
 | .any, p => ∃ v, p v
 | .agg ts, p => genL ts λ l => p (.agg l.toArray)
 | .tup ts, p => genL ts λ l => p (.tuple l.toArray)
def genL : List Ty -> (List Value -> Prop) -> Prop
 | [], p => p []
 | t :: ts, p => gen1 t λ v => genL ts λ l => p (v :: l)
end
mutual
theorem gen1_ex : ∀ (t : Ty) {p : Value -> Prop}, gen1 t p -> ∃ v, p v
 | .int _, _, ⟨_, h⟩ => ⟨_, h⟩
 | .bool, _, ⟨_, h⟩ => ⟨_, h⟩
 | .str, _, ⟨_, h⟩ => ⟨_, h⟩
 | .ptr, _, ⟨_, h⟩ => ⟨_, h⟩
 | .slice, _, ⟨_, _, _, h⟩ => ⟨_, h⟩
 | .map, _, ⟨_, h⟩ => ⟨_, h⟩
 | .any, _, ⟨_, h⟩ => ⟨_, h⟩
 | .agg ts, _, h => let ⟨_, h⟩ := genL_ex ts h; ⟨_, h⟩
 | .tup ts, _, h => let ⟨_, h⟩ := genL_ex ts h; ⟨_, h⟩
theorem genL_ex : ∀ (ts : List Ty) {p : List Value -> Prop}, genL ts p -> ∃ l, p l
 | [], _, h => ⟨_, h⟩
 | t :: ts, _, h => let ⟨_, h⟩ := gen1_ex t h; let ⟨_, h⟩ := genL_ex ts h; ⟨_, h⟩
end
structure TE where
 ty : Nat -> Ty := λ _ => .any
 ent : Ty := .any
 feq : Nat -> Option (List Nat) := λ _ => none
 ud : Nat -> Option TypeDesc
 sz : Nat -> Option Nat
 zv : Nat -> Option Value
 ov : Bool := false
def leafD (c : Nat) : Option TypeDesc :=
 match c with
 | 0 => some .bool
 | 2 => some .string
 | 3 => some (.int .i64)
 | 4 => some (.int .u8)
 | 5 => some (.int .u32)
 | 6 => some (.int .u64)
 | 7 => some (.int .i32)
 | 8 => some (.int .i16)
 | _ => some (.int .u16)
structure TOk (P : Program) (E : TE) : Prop where
 ud : ∀ t d, E.ud t = some d -> P.underlying t = some d
 sz : ∀ t n, E.sz t = some n -> ∃ i, P.info? t = some i /\ i.size = n
 zv : ∀ t v, E.zv t = some v -> ∃ i, P.info? t = some i /\ i.zero = some v
 feq : ∀ t ks, E.feq t = some ks -> ∃ fs : Array Field, P.underlying t = some (.struct fs) /\ P.stoodInHeld t = false /\ P.eqGuardType P.depth t = false /\
  fs.size = ks.length /\ ∀ (i : Nat) (f : Field), fs[i]? = some f -> f.name ≠ "_" /\ f.offset = i /\ ∃ c, ks[i]? = some c /\ P.underlying f.type = leafD c
theorem TOk.prUd {P : Program} {E : TE} (T : TOk P E) {t : Nat} {d : TypeDesc} (h : E.ud t = some d) : pr P (underlying t) = some d :=
 pr_underlying (T.ud _ _ h)
theorem TOk.prSz {P : Program} {E : TE} (T : TOk P E) {t : Nat} {n : Nat} (h : E.sz t = some n) : pr P (sizeOf t) = some n := by
 obtain ⟨i, hi, hn⟩ := T.sz _ _ h
 simp only [sizeOf, typeInfo, pr_bind, pr_program, Option.bind_some, hi, pr_pure, hn]
theorem TOk.prZv {P : Program} {E : TE} (T : TOk P E) {t : Nat} {v : Value} (h : E.zv t = some v) : pr P (zeroValue t) = some v := by
 obtain ⟨i, hi, hn⟩ := T.zv _ _ h
 simp only [zeroValue, typeInfo, pr_bind, pr_program, Option.bind_some, hi, pr_pure, hn]
def Rng (x : Int) (K : Prop) : Prop := (-9223372036854775808 <= x /\ x <= 9223372036854775807) /\ K
def NN (p : Option Addr) (K : Addr -> Prop) : Prop := match p with | some a => K a | none => False
def IsI (v : Value) : Prop := v = .nilIface ∨ ∃ t u, v = .iface t u
def isNilI : Value -> Bool
 | .nilIface => true
 | _ => false
def bitsI (op : BinOp) (k : IntKind) (x y : Int) : Int :=
 let a := BitVec.ofInt k.bits x
 let b := BitVec.ofInt k.bits y
 match op with
 | .and => k.wrap (a &&& b).toNat
 | .or => k.wrap (a ||| b).toNat
 | .xor => k.wrap (a ^^^ b).toNat
 | _ => k.wrap (a &&& ~~~b).toNat
def bt (s : ByteArray) (i : Int) : Int := ((s[i.toNat]?).getD 0).toNat
def ovK (E : TE) (k : IntKind) (x : Int) (K : Value -> Prop) : Prop :=
 match E.ov, k with
 | false, .i64 => Rng x (K (.int .i64 x))
 | _, k => K (.int k (k.wrap x))
def intK (E : TE) (op : BinOp) (k : IntKind) (a b : Int) (K : Value -> Prop) : Prop :=
 match op with
 | .add => ovK E k (a + b) K
 | .sub => ovK E k (a - b) K
 | .mul => ovK E k (a * b) K
 | .quo => b ≠ 0 /\ K (.int k (k.wrap (a.tdiv b)))
 | .rem => b ≠ 0 /\ K (.int k (a.tmod b))
 | .and | .or | .xor | .andNot => K (.int k (bitsI op k a b))
 | .eql => K (.bool (a == b))
 | .neq => K (.bool (a != b))
 | .lss => K (.bool (decide (a < b)))
 | .leq => K (.bool (decide (a <= b)))
 | .gtr => K (.bool (decide (a > b)))
 | .geq => K (.bool (decide (a >= b)))
 | .shl | .shr => False
theorem wrap_i64 {x : Int} (h0 : -9223372036854775808 <= x) (h1 : x <= 9223372036854775807) : IntKind.i64.wrap x = x := by
 simp [IntKind.wrap, IntKind.bits, IntKind.signed]
 split <;> omega
theorem ovK_spec {E : TE} {k : IntKind} {x : Int} {K : Value -> Prop} (h : ovK E k x K) : K (.int k (k.wrap x)) := by
 unfold ovK at h
 split at h
 ·obtain ⟨⟨h0, h1⟩, hk⟩ := h; rw [wrap_i64 h0 h1]; exact hk
 ·exact h
end Go.Sl
namespace Go.Sl
open Go
def eqK (E : TE) (neg : Bool) (t : Nat) (x y : Value) (K : Value -> Prop) : Prop :=
 match E.ud t, x, y with
 | some .bool, .bool a, .bool b => K (.bool (bif neg then !(a == b) else a == b))
 | some (.pointer _), .pointer p, .pointer none => K (.bool (bif neg then !p.isNone else p.isNone))
 | some (.slice _), .slice a _ _, .slice none _ _ => K (.bool (bif neg then !a.isNone else a.isNone))
 | some (.map _ _), .map a, .map none => K (.bool (bif neg then !a.isNone else a.isNone))
 | _, _, _ => False
def strK (op : BinOp) (a b : ByteArray) (K : Value -> Prop) : Prop :=
 match op with
 | .add => (((a.size + b.size : Nat) : Int) <= 9223372036854775807) /\ K (.string (a ++ b))
 | .eql => K (.bool (a.toList == b.toList))
 | .neq => K (.bool !(a.toList == b.toList))
 | _ => False
def isIfaceD : Option TypeDesc -> Bool
 | some (.interface _) => true
 | _ => false
def binK (E : TE) (op : BinOp) (t : Nat) (x y : Operand) (e : Operand -> Value) (K : Value -> Prop) : Prop :=
 bif isIfaceD (E.ud t) then (match op, y with
  | .eql, .const .nilIface => IsI (e x) /\ K (.bool (isNilI (e x)))
  | .neq, .const .nilIface => IsI (e x) /\ K (.bool (!isNilI (e x)))
  | _, _ => False)
 else match op, e x, e y with
 | .shl, .int k a, .int _ b => 0 <= b /\ K (.int k (k.wrap (a * 2 ^ (min b.toNat k.bits))))
 | .shr, .int k a, .int _ b => 0 <= b /\ K (.int k (a.fdiv (2 ^ (min b.toNat k.bits))))
 | op, .int k a, .int k' b => (if k = k' then intK E op k a b K else False)
 | op, .string a, .string b => strK op a b K
 | .eql, u, v => (match y with | .const _ => eqK E false t u v K | _ => (match u, v with | .bool _, .bool _ => eqK E false t u v K | _, _ => False))
 | .neq, u, v => (match y with | .const _ => eqK E true t u v K | _ => (match u, v with | .bool _, .bool _ => eqK E true t u v K | _, _ => False))
 | _, _, _ => False
theorem pr_map_bool {P : Program} (s : Sem Bool) (f : Bool -> Value) {b : Bool} (h : pr P s = some b) : pr P (do pure (f (<- s))) = some (f b) := by
 rw [pr_bind, h]; rfl
theorem eqK_in {P : Program} {E : TE} (T : TOk P E) {neg : Bool} {t : Nat} {x y : Value} {K : Value -> Prop} (d : Nat) (h : eqK E neg t x y K) :
  ∃ b, pr P (Op.equalIn (d + 1) t x y) = some b /\ K (.bool (bif neg then !b else b)) := by
 unfold eqK at h
 split at h
 ·rename_i a b hu
  exact ⟨a == b, by simp only [Op.equalIn, pr_bind, T.prUd hu, Option.bind_some, pr_pure], h⟩
 ·rename_i u p hu
  refine ⟨p.isNone, ?_, h⟩
  cases p <;> simp only [Op.equalIn, pr_bind, T.prUd hu, Option.bind_some, pr_pure] <;> rfl
 ·rename_i u a _ _ _ _ hu
  refine ⟨a.isNone, ?_, h⟩
  cases a <;> simp only [Op.equalIn, pr_bind, T.prUd hu, Option.bind_some, pr_pure] <;> rfl
 ·rename_i _ _ a hu
  refine ⟨a.isNone, ?_, h⟩
  cases a <;> simp only [Op.equalIn, pr_bind, T.prUd hu, Option.bind_some, pr_pure] <;> rfl
 ·exact h.elim
theorem nilI_spec {P : Program} {E : TE} (T : TOk P E) {t : Nat} {ms : Array (String × TypeId)} {v : Value} (d : Nat) (hu : E.ud t = some (.interface ms)) (hi : IsI v) :
  pr P (Op.equalIn (d + 1) t v .nilIface) = some (isNilI v) := by
 rcases hi with rfl | ⟨t', u, rfl⟩ <;> simp only [Op.equalIn, pr_bind, T.prUd hu, Option.bind_some, pr_pure] <;> rfl
theorem eqK_spec {P : Program} {E : TE} (T : TOk P E) {neg : Bool} {t : Nat} {x y : Value} {K : Value -> Prop} (h : eqK E neg t x y K) :
  ∃ b, pr P (Op.equal t x y) = some b /\ K (.bool (bif neg then !b else b)) := eqK_in T 9999 h
theorem intK_spec {P : Program} {E : TE} {op : BinOp} {k : IntKind} {a b : Int} {K : Value -> Prop} {t : Nat} (h : intK E op k a b K) :
  ∃ v, pr P (binOp op t (.int k a) (.int k b)) = some v /\ K v := by
 cases op <;> simp only [intK] at h
 case add => exact ⟨_, by simp [binOp, Op.intArith, pr_pure], ovK_spec h⟩
 case sub => exact ⟨_, by simp [binOp, Op.intArith, pr_pure], ovK_spec h⟩
 case mul => exact ⟨_, by simp [binOp, Op.intArith, pr_pure], ovK_spec h⟩
 case quo => exact ⟨_, by simp [binOp, Op.intDiv, pr_pure, h.1], h.2⟩
 case rem => exact ⟨_, by simp [binOp, Op.intDiv, pr_pure, h.1], h.2⟩
 case and => exact ⟨_, by simp only [binOp, Op.intBits, ne_eq, not_true_eq_false, if_false, pr_pure]; rfl, h⟩
 case or => exact ⟨_, by simp only [binOp, Op.intBits, ne_eq, not_true_eq_false, if_false, pr_pure]; rfl, h⟩
 case xor => exact ⟨_, by simp only [binOp, Op.intBits, ne_eq, not_true_eq_false, if_false, pr_pure]; rfl, h⟩
 case andNot => exact ⟨_, by simp only [binOp, Op.intBits, ne_eq, not_true_eq_false, if_false, pr_pure]; rfl, h⟩
 all_goals exact ⟨_, by simp only [binOp, Op.intCmp, ne_eq, not_true_eq_false, if_false, pr_pure], h⟩
theorem eqGuard_const {P : Program} {op : BinOp} {t : Nat} {x : Operand} {c a b : Value} (h2 : ∀ cs, b ≠ .agg cs) : pr P (eqGuard op t x (.const c) a b) = some () := by
 unfold eqGuard
 cases op <;> first | rfl | (cases a <;> first | rfl | (cases b <;> first | rfl | exact absurd rfl (h2 _) | (cases x <;> rfl)))
theorem eqGuard_bool {P : Program} {op : BinOp} {t : Nat} {x y : Operand} {a b : Bool} : pr P (eqGuard op t x y (.bool a) (.bool b)) = some () := by
 unfold eqGuard
 cases op <;> rfl
theorem eqGuard_int {P : Program} {op : BinOp} {t : Nat} {x y : Operand} {a b : Int} {k k' : IntKind} : pr P (eqGuard op t x y (.int k a) (.int k' b)) = some () := by
 unfold eqGuard
 cases op <;> rfl
theorem eqGuard_str {P : Program} {op : BinOp} {t : Nat} {x y : Operand} {a b : ByteArray} : pr P (eqGuard op t x y (.string a) (.string b)) = some () := by
 unfold eqGuard
 cases op <;> rfl
end Go.Sl
namespace Go.Sl
open Go
theorem binK_spec {P : Program} {E : TE} (T : TOk P E) {op : BinOp} {t : Nat} {x y : Operand} {e : Operand -> Value} (hc : ∀ v, e (.const v) = v) {K : Value -> Prop} (h : binK E op t x y e K) :
  ∃ v, pr P (do eqGuard op t x y (e x) (e y); binOp op t (e x) (e y)) = some v /\ K v := by
 unfold binK at h
 cases hif : isIfaceD (E.ud t) with
 | true =>
  rw [hif] at h
  simp only [cond_true] at h
  obtain ⟨ms, hu⟩ : ∃ ms, E.ud t = some (.interface ms) := by
   unfold isIfaceD at hif
   split at hif
   ·rename_i ms hu; exact ⟨ms, hu⟩
   ·cases hif
  split at h
  ·obtain ⟨hi, hk⟩ := h
   refine ⟨_, ?_, hk⟩
   rw [hc, pr_bind, eqGuard_const (λ cs h => by cases h)]
   have := nilI_spec (P := P) T 9999 hu hi
   have hb : binOp .eql t (e x) .nilIface = (do pure (.bool (<- Op.equal t (e x) .nilIface))) := by
    rcases hi with h | ⟨t', u, h⟩ <;> rw [h] <;> rfl
   simp only [Option.bind_some]
   rw [hb]
   exact pr_map_bool _ _ this
  ·obtain ⟨hi, hk⟩ := h
   refine ⟨_, ?_, hk⟩
   rw [hc, pr_bind, eqGuard_const (λ cs h => by cases h)]
   have := nilI_spec (P := P) T 9999 hu hi
   have hb : binOp .neq t (e x) .nilIface = (do pure (.bool !(<- Op.equal t (e x) .nilIface))) := by
    rcases hi with h | ⟨t', u, h⟩ <;> rw [h] <;> rfl
   simp only [Option.bind_some]
   rw [hb]
   exact pr_map_bool _ (λ b => .bool !b) this
  ·exact h.elim
 | false => ?_
 rw [hif] at h
 simp only [cond_false] at h
 split at h
 ·rename_i k a _ b hx hy
  refine ⟨_, ?_, h.2⟩
  rw [hx, hy, pr_bind, eqGuard_int]
  simp [binOp, Op.shift, pr_pure, Int.not_lt.2 h.1]
 ·rename_i k a _ b hx hy
  refine ⟨_, ?_, h.2⟩
  rw [hx, hy, pr_bind, eqGuard_int]
  simp [binOp, Op.shift, pr_pure, Int.not_lt.2 h.1]
 ·rename_i k a k' b hs1 hs2 hx hy
  split at h
  ·rename_i hk
   subst hk
   obtain ⟨v, hv, hK⟩ := intK_spec (P := P) (t := t) h
   exact ⟨v, by rw [hx, hy, pr_bind, eqGuard_int]; exact hv, hK⟩
  ·exact h.elim
 ·rename_i a b hx hy
  unfold strK at h
  split at h
  ·refine ⟨_, ?_, h.2⟩
   rw [hx, hy, pr_bind, eqGuard_str]
   have := h.1
   have hm : IntKind.i64.max = 9223372036854775807 := by decide
   simp only [Option.bind_some, binOp, Op.stringOp, hm]
   rw [if_neg (by omega)]
   rfl
  ·exact ⟨_, by rw [hx, hy, pr_bind, eqGuard_str]; rfl, h⟩
  ·exact ⟨_, by rw [hx, hy, pr_bind, eqGuard_str]; rfl, h⟩
  ·exact h.elim
 ·rename_i hs hi
  split at h
  ·rename_i c
   obtain ⟨b, hb, hK⟩ := eqK_spec T h
   refine ⟨_, ?_, hK⟩
   have hg : pr P (eqGuard .eql t x (.const c) (e x) (e (.const c))) = some () := eqGuard_const λ cs hcs => by
    unfold eqK at h
    rw [hcs] at h
    cases hd : E.ud t <;> simp only [hd] at h
    split at h <;> simp_all
   rw [pr_bind, hg]
   have : pr P (binOp .eql t (e x) (e (.const c))) = some (.bool b) := by
    rw [show binOp .eql t (e x) (e (.const c)) = (do pure (.bool (<- Op.equal t (e x) (e (.const c))))) from ?_]
    ·exact pr_map_bool _ _ hb
    ·unfold eqK at h
     split at h <;> simp_all [binOp]
   simpa using this
  ·split at h
   ·rename_i a b hx hy
    obtain ⟨b', hb, hK⟩ := eqK_spec T h
    refine ⟨.bool b', ?_, hK⟩
    rw [hx, hy] at hb
    rw [hx, hy, pr_bind, eqGuard_bool]
    simp only [Option.bind_some, binOp]
    exact pr_map_bool _ _ hb
   ·exact h.elim
 ·rename_i hs hi
  split at h
  ·rename_i c
   obtain ⟨b, hb, hK⟩ := eqK_spec T h
   refine ⟨_, ?_, hK⟩
   have hg : pr P (eqGuard .neq t x (.const c) (e x) (e (.const c))) = some () := eqGuard_const λ cs hcs => by
    unfold eqK at h
    rw [hcs] at h
    cases hd : E.ud t <;> simp only [hd] at h
    split at h <;> simp_all
   rw [pr_bind, hg]
   have : pr P (binOp .neq t (e x) (e (.const c))) = some (.bool !b) := by
    rw [show binOp .neq t (e x) (e (.const c)) = (do pure (.bool !(<- Op.equal t (e x) (e (.const c))))) from ?_]
    ·exact pr_map_bool _ (λ b => .bool !b) hb
    ·unfold eqK at h
     split at h <;> simp_all [binOp]
   simpa using this
  ·split at h
   ·rename_i a b hx hy
    obtain ⟨b', hb, hK⟩ := eqK_spec T h
    refine ⟨.bool !b', ?_, hK⟩
    rw [hx, hy] at hb
    rw [hx, hy, pr_bind, eqGuard_bool]
    simp only [Option.bind_some, binOp]
    exact pr_map_bool _ (λ b => .bool !b) hb
   ·exact h.elim
 ·exact h.elim
end Go.Sl
namespace Go.Sl
open Go
def isAggD : TypeDesc -> Bool
 | .struct _ | .array _ _ => true
 | _ => false
def leafOk (c : Nat) (x y : Value) : Bool :=
 match c, x, y with
 | 0, .bool _, .bool _ => true
 | 2, .string _, .string _ => true
 | _ + 3, .int k _, .int k' _ => decide (k = k')
 | _, _, _ => false
def eqOk : List Nat -> List Value -> List Value -> Bool
 | c :: ks, x :: xs, y :: ys => leafOk c x y && eqOk ks xs ys
 | [], [], [] => true
 | _, _, _ => false
def eqLeafB : Value -> Value -> Bool
 | .bool a, .bool b => a == b
 | .int _ a, .int _ b => a == b
 | .string a, .string b => a == b
 | _, _ => false
def eqCells : List Value -> List Value -> Bool
 | x :: xs, y :: ys => eqLeafB x y && eqCells xs ys
 | _, _ => true
def nilK (x : Value) (K : Value -> Prop) : Prop :=
 match x with
 | .pointer p => NN p λ a => K (.pointer (some a))
 | .iface t v => K (.iface t v)
 | .func (.func f) a b => K (.func (.func f) a b)
 | _ => False
def unK (E : TE) (op : UnOp) (x : Value) (K : Value -> Prop) : Prop :=
 match op, x with
 | .neg, .int k n => ovK E k (0 - n) K
 | .xor, .int k n => K (.int k (bitsI .xor k (if k.signed then -1 else k.max) n))
 | .not, .bool b => K (.bool !b)
 | _, _ => False
def lowK (lo : Option Value) (h : Nat) (K : Nat -> Prop) : Prop :=
 match lo with
 | some (.int _ n) => (0 <= n /\ n <= (h : Int)) /\ K n.toNat
 | none => K 0
 | _ => False
def highK (hi : Option Value) (len cap : Nat) (K : Nat -> Prop) : Prop :=
 match hi with
 | some (.int _ n) => (0 <= n /\ n <= (cap : Int)) /\ K n.toNat
 | none => K len
 | _ => False
def maxK (mx hi : Option Value) (cap : Nat) (K : Nat -> Prop) : Prop :=
 match mx, hi with
 | some (.int _ n), some _ => (0 <= n /\ n <= (cap : Int)) /\ K n.toNat
 | none, _ => K cap
 | _, _ => False
def subA (a : Option Addr) (l m size : Nat) : Option Addr := if m = l then a else a.map (·.add (l * size))
def sliceK (size : Nat) (x : Value) (lo hi mx : Option Value) (K : Value -> Prop) : Prop :=
 match x with
 | .slice a len cap => maxK mx hi cap λ m => highK hi len m λ h => lowK lo h λ l =>
   match lo with
   | none => K (.slice a h m)
   | some _ => K (.slice (subA a l m size) (h - l) (m - l))
 | _ => False
def sliceS (x : Value) (lo hi : Option Value) (K : Value -> Prop) : Prop :=
 match x with
 | .string s => highK hi s.size s.size λ h => lowK lo h λ l => K (.string (s.extract l h))
 | _ => False
def partK (E : TE) (t : Nat) (cs : List Value) (off : Nat) (K : Value -> Prop) : Prop :=
 match E.ud t, E.sz t with
 | some d, some n => bif isAggD d then K (.agg ((cs.drop off).take n).toArray) else match cs[off]? with
  | some v => K v
  | none => False
 | _, _ => False
def plK (v : Value) (K : Prop) : Prop :=
 match v with
 | .agg _ => False
 | .tuple _ => False
 | .bool _ => K
 | .int _ _ => K
 | .float _ _ => K
 | .complex _ _ _ => K
 | .string _ => K
 | .pointer _ => K
 | .slice _ _ _ => K
 | .map _ => K
 | .chan _ => K
 | .func _ _ _ => K
 | .nilFunc => K
 | .iface _ _ => K
 | .nilIface => K
def fillK (place : Nat -> Option (Nat × Nat × Bool)) (cells : List Value) (K : List Value -> Prop) : List (Nat × Value) -> Prop
 | [] => K cells
 | (i, v) :: rest =>
  match place i with
  | none => False
  | some (off, size, ag) =>
   bif ag then
    (let vs := v.cells.toList
    bif Nat.beq vs.length size && Nat.ble (off + size) cells.length then fillK place (cells.take off ++ vs ++ cells.drop (off + size)) K rest else False)
   else bif Nat.beq size 1 && Nat.ble (off + 1) cells.length then plK v (fillK place (cells.take off ++ [v] ++ cells.drop (off + 1)) K rest) else False
def fieldPl (E : TE) (fs : List Field) (i : Nat) : Option (Nat × Nat × Bool) :=
 match fs[i]? with
 | some f => (match E.sz f.type, E.ud f.type with
  | some n, some d => some (f.offset, n, isAggD d)
  | _, _ => none)
 | none => none
def elemPl (n : Nat) (ag : Bool) (i : Nat) : Option (Nat × Nat × Bool) := some (i * n, n, ag)
def allSz (E : TE) : List Field -> Bool
 | [] => true
 | f :: fs => (E.sz f.type).isSome && allSz E fs
def minI (a b : Int) : Int := if b < a then b else a
def maxI (a b : Int) : Int := if b > a then b else a
def pureK (E : TE) (e : Operand -> Value) (o : Op) : Option ((Value -> Prop) -> Prop) :=
 match o with
 | .move x => some λ K => K (e x)
 | .assign x => some λ K => K (e x)
 | .pick c a b => some λ K => match e c with | .bool t => bif t then K (e a) else K (e b) | _ => False
 | .nilCheck x => some λ K => nilK (e x) K
 | .binOp op t x y _ =>
  match op with
  | .eql | .neq =>
   match E.feq t with
   | some n => some λ K => match e x, e y with
    | .agg xs, .agg ys => bif eqOk n xs.toList ys.toList then K (.bool (bif (match op with | .eql => true | _ => false) then eqCells xs.toList ys.toList else !eqCells xs.toList ys.toList)) else False
    | _, _ => False
   | none =>
    match E.ud t with
    | some .bool | some (.int _) | some .string => some λ K => binK E op t x y e K
    | _ => match y with
     | .const _ => some λ K => binK E op t x y e K
     | _ => none
  | _ => some λ K => binK E op t x y e K
 | .unOp op _ x => some λ K => unK E op (e x) K
 | .convert s d x =>
  match E.ud s, E.ud d with
  | some (.int _), some (.int k) => some λ K => match e x with | .int _ n => K (.int k (k.wrap n)) | _ => False
  | some .string, some .string => some λ K => match e x with | .string s => K (.string s) | _ => False
  | _, _ => none
 | .makeInterface t x =>
  match E.ud t with
  | some (.interface _) => none
  | some _ => some λ K => K (.iface t (e x))
  | none => none
 | .makeFunc fn a b => some λ K => K (.func fn (a.toList.map e).toArray (b.toList.map e).toArray)
 | .fieldAddr s x f =>
  match E.ud s with
  | some (.struct fs) => match fs.toList[f]? with
   | some fd => match E.sz fd.type with
    | some (_ + 1) => some λ K => match e x with | .pointer (some a) => K (.pointer (some (a.add fd.offset))) | _ => False
    | _ => none
   | none => none
  | _ => none
 | .indexAddr t x i =>
  match E.ud t with
  | some (.array len el) => match E.sz el with
   | some n => some λ K => match e x, e i with
    | .pointer (some a), .int _ j => (0 <= j /\ j < (len : Int)) /\ K (.pointer (some (a.add (j.toNat * n))))
    | _, _ => False
   | none => none
  | some (.slice el) => match E.sz el with
   | some n => some λ K => match e x, e i with
    | .slice p len _, .int _ j => (0 <= j /\ j < (len : Int)) /\ NN p λ a => K (.pointer (some (a.add (j.toNat * n))))
    | _, _ => False
   | none => none
  | _ => none
 | .index t x i =>
  match E.ud t with
  | some .string => some λ K => match e x, e i with
   | .string s, .int _ j => (0 <= j /\ j < (s.size : Int)) /\ K (.int .u8 (bt s j))
   | _, _ => False
  | some (.array len el) => match E.ud el, E.sz el with
   | some d, some n => bif isAggD d then none else some λ K => match e x, e i with
    | .agg cs, .int _ j => (0 <= j /\ j < (len : Int)) /\ gen1 (E.ty el) λ v => cs.toList[j.toNat * n]? = some v /\ K v
    | _, _ => False
   | _, _ => none
  | _ => none
 | .field t x f =>
  match E.ud t with
  | some (.struct fs) => match fs.toList[f]? with
   | some fd => some λ K => match e x with | .agg cs => partK E fd.type cs.toList fd.offset K | _ => False
   | none => none
  | _ => none
 | .slice t x lo hi mx =>
  match E.ud t with
  | some (.slice el) => match E.sz el with
   | some n => some λ K => sliceK n (e x) (lo.map e) (hi.map e) (mx.map e) K
   | none => none
  | some .string => match mx with
   | none => some λ K => sliceS (e x) (lo.map e) (hi.map e) K
   | some _ => none
  | _ => none
 | .extract t i => some λ K => match e t with
  | .tuple vs => match vs.toList[i]? with
   | some v => K v
   | none => False
  | _ => False
 | .build t ps =>
  match E.zv t with
  | some z => match E.ud t with
   | some (.struct fs) => some λ K =>
    bif allSz E fs.toList then fillK (fieldPl E fs.toList) z.cells.toList (λ l => K (.agg l.toArray)) (ps.toList.map λ p => (p.1, e p.2)) else False
   | some (.array _ el) => match E.sz el, E.ud el with
    | some n, some d => some λ K => fillK (elemPl n (isAggD d)) z.cells.toList (λ l => K (.agg l.toArray)) (ps.toList.map λ p => (p.1, e p.2))
    | _, _ => none
   | _ => none
  | none => none
 | .call c =>
  match c.callee with
  | .builtin .len => match (c.argTypes.toList[0]?).bind E.ud, c.args.toList with
   | some (.slice _), [x] => some λ K => match e x with | .slice _ n _ => K (.int .i64 n) | _ => False
   | some .string, [x] => some λ K => match e x with | .string s => K (.int .i64 s.size) | _ => False
   | some (.array n _), [_] => some λ K => K (.int .i64 n)
   | _, _ => none
  | .builtin .cap => match (c.argTypes.toList[0]?).bind E.ud, c.args.toList with
   | some (.slice _), [x] => some λ K => match e x with | .slice _ _ n => K (.int .i64 n) | _ => False
   | _, _ => none
  | .builtin .min => match c.args.toList with
   | [x, y] => some λ K => match e x, e y with | .int k a, .int _ b => K (.int k (minI a b)) | _, _ => False
   | _ => none
  | .builtin .max => match c.args.toList with
   | [x, y] => some λ K => match e x, e y with | .int k a, .int _ b => K (.int k (maxI a b)) | _, _ => False
   | _ => none
  | _ => none
 | _ => none
end Go.Sl
namespace Go.Sl
open Go
theorem pr_v {P : Program} (s : Sem Value) {v : Value} (h : pr P s = some v) : pr P (do pure (Next.value (<- s)) : Sem Next) = some (.value v) := by
 rw [pr_bind, h]; rfl
section
variable {P : Program} {E : TE} {e : Operand -> Value} {K : Value -> Prop}
theorem nilK_spec {x : Operand} {o : Oper} (ho : o.op = .nilCheck x) (h : nilK (e x) K) : ∃ v, pr P (execOp e o) = some (.value v) /\ K v := by
 unfold execOp
 simp only [ho]
 unfold nilK at h
 split at h
 ·rename_i p hx
  rw [hx]
  cases p with
  | none => exact h.elim
  | some a => exact ⟨_, rfl, h⟩
 ·rename_i hx; rw [hx]; exact ⟨_, rfl, h⟩
 ·rename_i hx; rw [hx]; exact ⟨_, rfl, h⟩
 ·exact h.elim
theorem unK_spec {op : UnOp} {x : Value} (h : unK E op x K) : ∃ v, pr P (Op.unary op x) = some v /\ K v := by
 unfold unK at h
 split at h
 ·exact ⟨_, rfl, ovK_spec h⟩
 ·exact ⟨_, rfl, h⟩
 ·exact ⟨_, rfl, h⟩
 ·exact h.elim
theorem asIntOf_int {k : IntKind} {n : Int} : pr P (asIntOf (.int k n)) = some (k, n) := rfl
theorem sliceBound_spec {k : IntKind} {n : Int} {y : Nat} {c : BoundsCode} (h : 0 <= n /\ n <= (y : Int)) : pr P (Instr.sliceBound (.int k n) y c) = some n.toNat := by
 unfold Instr.sliceBound
 simp only [pr_bind, asIntOf_int, Option.bind_some, if_pos h, pr_pure]
theorem sliceBounds_spec {b : Bool} {len cap : Nat} {lo hi mx : Option Value} {Q : Nat -> Nat -> Nat -> Prop}
  (h : maxK mx hi cap λ m => highK hi len m λ h => lowK lo h λ l => Q l h m) :
  ∃ l h m, pr P (Instr.sliceBounds b len cap lo hi mx) = some (l, h, m) /\ Q l h m /\ (lo = none -> l = 0) := by
 have low : ∀ {hh m : Nat} {c1 : BoundsCode}, lowK lo hh (λ l => Q l hh m) -> ∃ l, pr P (match lo with | some v => Instr.sliceBound v hh c1 | none => pure 0 : Sem Nat) = some l /\ Q l hh m /\ (lo = none -> l = 0) := by
  intro hh m c1 hl
  unfold lowK at hl
  split at hl
  ·exact ⟨_, sliceBound_spec hl.1, hl.2, λ h => by cases h⟩
  ·exact ⟨0, rfl, hl, λ _ => rfl⟩
  ·exact hl.elim
 unfold maxK at h
 unfold Instr.sliceBounds
 split at h
 ·rename_i k n v
  obtain ⟨hm, h⟩ := h
  unfold highK at h
  split at h
  ·rename_i k' n' heq
   cases heq
   obtain ⟨hh, h⟩ := h
   obtain ⟨l, hl, hq, hz⟩ := low (c1 := .slice3C) h
   refine ⟨l, _, _, ?_, hq, hz⟩
   simp only [pr_bind, sliceBound_spec hm, sliceBound_spec hh, Option.bind_some, Option.isSome_some, if_true]
   cases lo <;> simp_all [pr_bind, pr_pure, pr_map]
  ·rename_i heq; cases heq
  ·exact h.elim
 ·unfold highK at h
  split at h
  ·obtain ⟨hh, h⟩ := h
   obtain ⟨l, hl, hq, hz⟩ := low (c1 := .sliceB) h
   refine ⟨l, _, _, ?_, hq, hz⟩
   simp only [pr_bind, pr_pure, sliceBound_spec hh, Option.bind_some, Option.isSome_none, Bool.false_eq_true, if_false]
   cases lo <;> simp_all [pr_bind, pr_pure, pr_map]
  ·obtain ⟨l, hl, hq, hz⟩ := low (c1 := .sliceB) h
   refine ⟨l, _, _, ?_, hq, hz⟩
   simp only [pr_bind, pr_pure, Option.bind_some, Option.isSome_none, Bool.false_eq_true, if_false]
   cases lo <;> simp_all [pr_bind, pr_pure, pr_map]
  ·exact h.elim
 ·exact h.elim
theorem add_zero (a : Addr) : a.add 0 = a := by simp [Addr.add]
theorem sliceK_spec (T : TOk P E) {t el n : Nat} {x : Value} {lo hi mx : Option Value} (hu : E.ud t = some (.slice el)) (hs : E.sz el = some n) (h : sliceK n x lo hi mx K) :
  ∃ v, pr P (Instr.sliceAt t x lo hi mx) = some v /\ K v := by
 unfold sliceK at h
 split at h
 ·rename_i a len cap
  obtain ⟨l, hh, m, hb, hq, hz⟩ := sliceBounds_spec (P := P) (b := true) h
  unfold Instr.sliceAt Instr.slice
  simp only [pr_bind, T.prUd hu, Option.bind_some, hb, T.prSz hs, pr_pure]
  cases lo with
  | none =>
   have := hz rfl
   subst this
   refine ⟨_, rfl, ?_⟩
   have : (if m = 0 then a else a.map (·.add (0 * n))) = a := by
    cases a <;> simp [add_zero]
   rw [this]
   simpa using hq
  | some v => exact ⟨_, rfl, hq⟩
 ·exact h.elim
theorem sliceS_spec (T : TOk P E) {t : Nat} {x : Value} {lo hi : Option Value} (hu : E.ud t = some .string) (h : sliceS x lo hi K) :
  ∃ v, pr P (Instr.sliceAt t x lo hi none) = some v /\ K v := by
 unfold sliceS at h
 split at h
 ·rename_i s
  obtain ⟨l, hh, m, hb, hq, _⟩ := sliceBounds_spec (P := P) (b := false) (mx := none) (hi := hi) (lo := lo) (cap := s.size) (len := s.size) (Q := λ l h _ => K (.string (s.extract l h))) (by unfold maxK; split <;> first | exact h | simp_all)
  unfold Instr.sliceAt Instr.slice
  refine ⟨_, ?_, hq⟩
  simp [pr_bind, T.prUd hu, hb, pr_pure, pr_map]
 ·exact h.elim
theorem isAgg_spec (T : TOk P E) {t : Nat} {d : TypeDesc} (hu : E.ud t = some d) : pr P (isAgg t) = some (isAggD d) := by
 unfold isAgg
 rw [pr_bind, T.prUd hu]
 cases d <;> rfl
theorem extract_toList (cs : Array Value) (a b : Nat) : cs.extract a (a + b) = ((cs.toList.drop a).take b).toArray := by
 apply Array.ext'
 simp [List.take_drop, Nat.add_comm]
theorem partK_spec (T : TOk P E) {t off : Nat} {cs : Array Value} (h : partK E t cs.toList off K) : ∃ v, pr P (part t cs off) = some v /\ K v := by
 unfold partK at h
 split at h
 ·rename_i d n hu hs
  unfold part
  simp only [pr_bind, isAgg_spec T hu, Option.bind_some]
  cases hd : isAggD d
  ·simp only [hd, cond_false] at h
   simp only [Bool.false_eq_true, if_false]
   split at h
   ·rename_i v hv
    simp only [Array.getElem?_toList] at hv
    exact ⟨v, by rw [hv]; rfl, h⟩
   ·exact h.elim
  ·simp only [hd, cond_true] at h
   refine ⟨_, ?_, h⟩
   simp only [if_true, pr_bind, T.prSz hs, Option.bind_some, pr_pure, extract_toList]
 ·exact h.elim
theorem foldl_set (vs : List Value) : ∀ (cells : List Value) (off k : Nat), off + k + vs.length <= cells.length ->
  ((vs.zipIdx k).foldl (λ (cs : Array Value) (p : Value × Nat) => cs.setIfInBounds (off + p.2) p.1) cells.toArray) = (cells.take (off + k) ++ vs ++ cells.drop (off + k + vs.length)).toArray := by
 induction vs with
 | nil => intro cells off k h; simp
 | cons v vs ih =>
  intro cells off k h
  simp only [List.length_cons] at h
  simp only [List.zipIdx_cons, List.foldl_cons]
  have h0 : cells.toArray.setIfInBounds (off + k) v = (cells.set (off + k) v).toArray := by
   apply Array.ext'; simp
  rw [h0, ih (cells.set (off + k) v) off (k + 1) (by simp; omega)]
  apply Array.ext'
  simp only [List.length_cons]
  have h1 : (cells.set (off + k) v).take (off + (k + 1)) = cells.take (off + k) ++ [v] := by
   rw [List.take_set, <- Nat.add_assoc, List.take_succ_eq_append_getElem (by omega), List.set_append_right _ _ (by simp; omega)]
   simp [Nat.min_eq_left (show off + k <= cells.length by omega)]
  have h2 : (cells.set (off + k) v).drop (off + (k + 1) + vs.length) = cells.drop (off + k + (vs.length + 1)) := by
   rw [List.drop_set_of_lt (by omega)]; congr 1; omega
  rw [h1, h2]; simp
theorem plK_spec {v : Value} {K : Prop} (h : plK v K) : K /\ v.cells = #[v] /\ plainV v = true := by
 cases v <;> first | exact ⟨h, rfl, rfl⟩ | exact h.elim
theorem fill_step {place' : Nat -> Option (Nat × Nat)} {i off size : Nat} {v : Value} {cells : List Value} {ps : List (Nat × Value)} (hp : place' i = some (off, size)) (h1 : v.cells.toList.length = size) (h2 : off + size <= cells.length) :
  Instr.fill place' cells.toArray ((i, v) :: ps) = Instr.fill place' (cells.take off ++ v.cells.toList ++ cells.drop (off + size)).toArray ps := by
 have hsz : v.cells.size = size := by simpa using h1
 simp only [Instr.fill, hp]
 rw [if_neg (by simp [hsz]; omega)]
 have := foldl_set v.cells.toList cells off 0 (by simp [hsz]; omega)
 congr 1
 rw [show v.cells.zipIdx.foldl (λ cs (x : Value × Nat) => cs.setIfInBounds (off + x.2) x.1) cells.toArray = _ from ?_]
 rw [<- Array.foldl_toList, Array.toList_zipIdx]
 rw [this]; simp [hsz]
theorem fillK_spec {place : Nat -> Option (Nat × Nat × Bool)} {place' : Nat -> Option (Nat × Nat)} (hp : ∀ i a b c, place i = some (a, b, c) -> place' i = some (a, b)) (ps : List (Nat × Value)) :
  ∀ {cells : List Value} {K : List Value -> Prop}, fillK place cells K ps -> ∃ l, Instr.fill place' cells.toArray ps = some l.toArray /\ K l := by
 induction ps with
 | nil => intro cells K h; exact ⟨cells, rfl, h⟩
 | cons p ps ih =>
  obtain ⟨i, v⟩ := p
  intro cells K h
  simp only [fillK] at h
  cases hpl : place i with
  | none => rw [hpl] at h; exact h.elim
  | some x =>
   obtain ⟨off, size, ag⟩ := x
   rw [hpl] at h
   simp only at h
   cases ag with
   | true =>
    simp only [cond_true] at h
    cases hc : (Nat.beq v.cells.toList.length size && Nat.ble (off + size) cells.length) with
    | false => rw [hc] at h; exact h.elim
    | true =>
     rw [hc] at h
     simp only [cond_true] at h
     simp only [Bool.and_eq_true, Nat.beq_eq, Nat.ble_eq] at hc
     obtain ⟨l, hl, hk⟩ := ih h
     exact ⟨l, by rw [fill_step (hp _ _ _ _ hpl) hc.1 hc.2]; exact hl, hk⟩
   | false =>
    simp only [cond_false] at h
    cases hc : (Nat.beq size 1 && Nat.ble (off + 1) cells.length) with
    | false => rw [hc] at h; exact h.elim
    | true =>
     rw [hc] at h
     simp only [cond_true] at h
     simp only [Bool.and_eq_true, Nat.beq_eq, Nat.ble_eq] at hc
     obtain ⟨h, hv, _⟩ := plK_spec h
     obtain ⟨l, hl, hk⟩ := ih h
     obtain ⟨h1, h2⟩ := hc
     subst h1
     exact ⟨l, by rw [fill_step (hp _ _ _ _ hpl) (by simp [hv]) h2, hv]; exact hl, hk⟩
end
end Go.Sl
namespace Go.Sl
open Go
section
variable {P : Program} {E : TE} {e : Operand -> Value} {K : Value -> Prop}
theorem leafD_plain (c : Nat) : ∃ d, leafD c = some d /\ isAggD d = false := by
 unfold leafD
 split <;> exact ⟨_, rfl, rfl⟩
theorem part_leaf {t off : Nat} {cs : Array Value} {c : Nat} {v : Value} (ht : P.underlying t = leafD c) (hv : cs[off]? = some v) : pr P (part t cs off) = some v := by
 obtain ⟨d, hd, hp⟩ := leafD_plain c
 unfold part
 have h1 : pr P (isAgg t) = some false := by
  unfold isAgg
  rw [pr_bind, pr_underlying (ht.trans hd)]
  cases d <;> first | rfl | cases hp
 simp only [pr_bind, h1, Option.bind_some, Bool.false_eq_true, if_false, hv, pr_pure]
theorem leaf_eq {t : TypeId} {x y : Value} (d c : Nat) (ht : P.underlying t = leafD c) (h : leafOk c x y = true) :
  pr P (Op.equalIn (d + 1) t x y) = some (eqLeafB x y) := by
 unfold leafOk at h
 split at h
 ·simp only [leafD] at ht
  simp only [Op.equalIn, pr_bind, pr_underlying ht, Option.bind_some, pr_pure, eqLeafB]
 ·simp only [leafD] at ht
  simp only [Op.equalIn, pr_bind, pr_underlying ht, Option.bind_some, pr_pure, eqLeafB]
 ·rename_i n k a k' b
  have hk : k = k' := by simpa using h
  subst hk
  have : ∃ kk, P.underlying t = some (.int kk) := by
   rw [ht]; unfold leafD; split <;> first | (rename_i hc; omega) | exact ⟨_, rfl⟩
  obtain ⟨kk, hkk⟩ := this
  simp only [Op.equalIn, pr_bind, pr_underlying hkk, Option.bind_some, pr_pure, eqLeafB, if_true]
 ·cases h
theorem eqStruct_spec (T : TOk P E) {t : Nat} {ks : List Nat} {xs ys : Array Value} (hf : E.feq t = some ks) (h : eqOk ks xs.toList ys.toList = true) (d : Nat) :
  pr P (Op.equalIn (d + 2) t (.agg xs) (.agg ys)) = some (eqCells xs.toList ys.toList) := by
 obtain ⟨fs, hu, hs, _, hl, hfs⟩ := T.feq _ _ hf
 rw [show d + 2 = (d + 1) + 1 from rfl]
 have leaf : ∀ (t : TypeId) (x y : Value) (c : Nat), P.underlying t = leafD c -> leafOk c x y = true -> pr P (Op.equalIn (d + 1) t x y) = some (eqLeafB x y) := λ t x y c h1 h2 => leaf_eq d c h1 h2
 generalize d + 1 = m at *
 simp only [Op.equalIn, pr_bind, pr_underlying hu, Option.bind_some, pr_program, hs, Bool.false_eq_true, if_false]
 rw [<- Array.forIn_toList]
 have hl' : fs.toList.length = ks.length := by simpa using hl
 have hf' : ∀ (i : Nat) (f : Field), fs.toList[i]? = some f -> f.name ≠ "_" /\ f.offset = 0 + i /\ ∃ c, ks[i]? = some c /\ P.underlying f.type = leafD c := λ i f hi => by simpa using hfs i f (by simpa using hi)
 have hx : ∀ i : Nat, xs[0 + i]? = xs.toList[i]? := by simp
 have hy : ∀ i : Nat, ys[0 + i]? = ys.toList[i]? := by simp
 clear hfs hl hu hf
 generalize fs.toList = l at *
 generalize xs.toList = xl at *
 generalize ys.toList = yl at *
 generalize 0 = k at *
 induction ks generalizing l k xl yl with
 | nil =>
  have : l = [] := List.length_eq_zero_iff.1 hl'
  subst this
  cases xl <;> cases yl <;> simp_all [eqOk, eqCells, pr_bind, pr_pure]
 | cons c ks ih =>
  match l, xl, yl, h with
  | f :: fs, x :: xl, y :: yl, hok =>
   simp only [eqOk, Bool.and_eq_true] at hok
   obtain ⟨h0, hrest⟩ := hok
   obtain ⟨hn, hoff, c', hc, hty⟩ := hf' 0 f rfl
   simp only [List.getElem?_cons_zero, Option.some.injEq] at hc
   subst hc
   have px := part_leaf (P := P) (off := f.offset) hty (by rw [hoff]; exact hx 0 : xs[f.offset]? = some x)
   have py := part_leaf (P := P) (off := f.offset) hty (by rw [hoff]; exact hy 0 : ys[f.offset]? = some y)
   have he := leaf f.type x y c hty h0
   have := ih fs (by simpa using hl') xl yl hrest (k + 1) (λ i f' hi => by
     obtain ⟨a, b, c2, d2, e2⟩ := hf' (i + 1) f' (by simpa using hi)
     exact ⟨a, by omega, c2, by simpa using d2, e2⟩) (λ i => by have := hx (i + 1); simpa [Nat.add_assoc, Nat.add_comm 1 i] using this)
     (λ i => by have := hy (i + 1); simpa [Nat.add_assoc, Nat.add_comm 1 i] using this)
   simp only [List.forIn_cons, pr_bind, if_pos hn, px, py, he, Option.bind_some]
   cases hb : eqLeafB x y
   ·simp [pr_bind, pr_pure, eqCells, hb]
   ·simp only [Bool.not_true, Bool.false_eq_true, if_false, pr_pure, Option.bind_some, eqCells, hb, Bool.true_and]
    exact this
  | [], _, _, _ => simp at hl'
  | _ :: _, [], _, h => simp [eqOk] at h
  | _ :: _, _ :: _, [], h => simp [eqOk] at h
end
end Go.Sl
namespace Go.Sl
open Go
section
variable {P : Program} {E : TE} {e : Operand -> Value} {K : Value -> Prop}
theorem fieldPlace_spec (T : TOk P E) {a : Addr} {f : Field} {n : Nat} (h : E.sz f.type = some (n + 1)) : pr P (fieldPlace a f) = some (a.add f.offset) := by
 unfold fieldPlace
 rw [pr_bind, T.prSz h]
 simp [pr_pure]
theorem array_map (a : Array Operand) : a.map e = (a.toList.map e).toArray := by
 apply Array.ext'; simp
theorem bin_struct_spec (T : TOk P E) {neg : Bool} {t u : Nat} {ks : List Nat} {x y : Operand} {o : Oper} (ho : o.op = .binOp (bif neg then .neq else .eql) t x y u) (hf : E.feq t = some ks)
  (h : match e x, e y with
    | .agg xs, .agg ys => bif eqOk ks xs.toList ys.toList then K (.bool (bif neg then !eqCells xs.toList ys.toList else eqCells xs.toList ys.toList)) else False
    | _, _ => False) : ∃ v, pr P (execOp e o) = some (.value v) /\ K v := by
 split at h
 ·rename_i xs ys hx hy
  cases hk : eqOk ks xs.toList ys.toList with
  | false => simp only [hk, cond_false] at h
  | true =>
   simp only [hk, cond_true] at h
   obtain ⟨_, _, _, hg, _, _⟩ := T.feq _ _ hf
   refine ⟨_, ?_, h⟩
   unfold execOp
   simp only [ho, hx, hy]
   have hgd : ∀ op, pr P (eqGuard op t x y (.agg xs) (.agg ys)) = some () := λ op => by
    unfold eqGuard
    cases op <;> first | rfl | simp [pr_bind, pr_program, hg, pr_pure]
   apply pr_v
   rw [pr_bind, hgd]
   simp only [Option.bind_some]
   have := eqStruct_spec (P := P) T hf hk 9998
   cases neg
   ·simp only [cond_false, binOp]
    exact pr_map_bool _ _ this
   ·simp only [cond_true, binOp]
    exact pr_map_bool _ (λ b => .bool !b) this
 ·exact h.elim
theorem mapM_places (T : TOk P E) (fs : List Field) (h : ∀ f ∈ fs, ∃ n, E.sz f.type = some n) :
  pr P (fs.mapM λ f => do pure (f.offset, <- sizeOf f.type)) = some (fs.map λ f => (f.offset, (E.sz f.type).getD 0)) := by
 induction fs with
 | nil => rfl
 | cons f fs ih =>
  obtain ⟨n, hn⟩ := h f (List.mem_cons_self)
  have := ih λ f hf => h f (List.mem_cons_of_mem _ hf)
  rw [List.mapM_cons, pr_bind, pr_bind, T.prSz hn]
  simp only [Option.bind_some, pr_pure, pr_bind] at this ⊢
  rw [this]
  simp [pr_pure, hn]
theorem allSz_spec {fs : List Field} (h : allSz E fs = true) : ∀ f ∈ fs, ∃ n, E.sz f.type = some n := by
 induction fs with
 | nil => intro f hf; cases hf
 | cons x xs ih =>
  simp only [allSz, Bool.and_eq_true] at h
  intro f hf
  rcases List.mem_cons.1 hf with rfl | hf
  ·exact Option.isSome_iff_exists.1 h.1
  ·exact ih h.2 f hf
theorem pureK_spec (T : TOk P E) (hc : ∀ v, e (.const v) = v) {o : Oper} {p : (Value -> Prop) -> Prop} (hp : pureK E e o.op = some p) (h : p K) :
  ∃ v, pr P (execOp e o) = some (.value v) /\ K v := by
 cases ho : o.op <;> simp only [ho, pureK, reduceCtorEq] at hp
 case move x => cases hp; exact ⟨_, by unfold execOp; simp only [ho]; rfl, h⟩
 case assign x => cases hp; exact ⟨_, by unfold execOp; simp only [ho]; rfl, h⟩
 case pick c a b =>
  cases hp
  split at h
  ·rename_i t hx
   cases t
   ·exact ⟨_, by unfold execOp; simp only [ho, hx]; rfl, h⟩
   ·exact ⟨_, by unfold execOp; simp only [ho, hx]; rfl, h⟩
  ·exact h.elim
 case nilCheck x => cases hp; exact nilK_spec ho h
 case unOp op t x =>
  cases hp
  obtain ⟨v, hv, hK⟩ := unK_spec (P := P) h
  exact ⟨v, by unfold execOp; simp only [ho]; exact pr_v _ hv, hK⟩
 case binOp op t x y u =>
  have gen : binK E op t x y e K -> ∃ v, pr P (execOp e o) = some (.value v) /\ K v := λ h => by
   obtain ⟨v, hv, hK⟩ := binK_spec T hc h
   exact ⟨v, by unfold execOp; simp only [ho]; exact pr_v _ hv, hK⟩
  split at hp
  ·split at hp
   ·rename_i ks hf
    cases hp
    refine bin_struct_spec (neg := false) T ho hf ?_
    split at h
    ·rename_i xs ys hx hy; first | (simp only [hx, hy]; exact h) | (rw [hx, hy]; exact h) | (rw [hx, hy] at h; exact h) | exact h
    ·exact h.elim
   ·split at hp
    ·cases hp; exact gen h
    ·cases hp; exact gen h
    ·cases hp; exact gen h
    ·split at hp
     ·cases hp; exact gen h
     ·cases hp
  ·split at hp
   ·rename_i ks hf
    cases hp
    refine bin_struct_spec (neg := true) T ho hf ?_
    split at h
    ·rename_i xs ys hx hy; first | (simp only [hx, hy]; exact h) | (rw [hx, hy]; exact h) | (rw [hx, hy] at h; exact h) | exact h
    ·exact h.elim
   ·split at hp
    ·cases hp; exact gen h
    ·cases hp; exact gen h
    ·cases hp; exact gen h
    ·split at hp
     ·cases hp; exact gen h
     ·cases hp
  ·cases hp; exact gen h
 case convert s d x =>
  split at hp
  ·rename_i k1 k hs hd
   cases hp
   split at h
   ·rename_i k2 n hx
    refine ⟨_, ?_, h⟩
    unfold execOp
    simp only [ho, hx]
    apply pr_v
    unfold convert
    simp only [pr_bind, T.prUd hs, T.prUd hd, Option.bind_some]
    rfl
   ·exact h.elim
  ·rename_i hs hd
   cases hp
   split at h
   ·rename_i s hx
    refine ⟨_, ?_, h⟩
    unfold execOp
    simp only [ho, hx]
    apply pr_v
    unfold convert
    simp only [pr_bind, T.prUd hs, T.prUd hd, Option.bind_some]
    rfl
   ·exact h.elim
  ·cases hp
 case makeInterface t x =>
  split at hp
  ·cases hp
  ·rename_i d hn hd
   cases hp
   refine ⟨_, ?_, h⟩
   unfold execOp
   simp only [ho]
   apply pr_v
   unfold Instr.makeInterface
   simp only [pr_bind, T.prUd hd, Option.bind_some]
   rfl
  ·cases hp
 case makeFunc fn a b =>
  cases hp
  refine ⟨_, ?_, h⟩
  unfold execOp
  simp only [ho]
  apply pr_v
  rw [<- array_map, <- array_map]
  rfl
 case fieldAddr s x f =>
  split at hp
  ·rename_i fs hs
   split at hp
   ·rename_i fd hf
    split at hp
    ·rename_i n hn
     cases hp
     split at h
     ·rename_i a hx
      refine ⟨_, ?_, h⟩
      unfold execOp
      simp only [ho, hx]
      apply pr_v
      unfold Instr.fieldAt
      simp only [Array.getElem?_toList] at hf
      simp only [pr_bind, T.prUd hs, Option.bind_some, hf]
      simp only [pr_bind, Instr.sureAddr, pr_pure, Option.bind_some, fieldPlace_spec T hn]
     ·exact h.elim
    ·cases hp
   ·cases hp
  ·cases hp
 case indexAddr t x i =>
  split at hp
  ·rename_i len el ht
   split at hp
   ·rename_i n hn
    cases hp
    split at h
    ·rename_i a k j hx hi
     obtain ⟨hb, h⟩ := h
     refine ⟨_, ?_, h⟩
     unfold execOp
     simp only [ho, hx, hi]
     apply pr_v
     unfold Instr.indexAt
     simp only [pr_bind, asIntOf_int, Option.bind_some, T.prUd ht, Instr.sureAddr, pr_pure, if_pos hb, T.prSz hn]
    ·exact h.elim
   ·cases hp
  ·rename_i el ht
   split at hp
   ·rename_i n hn
    cases hp
    split at h
    ·rename_i q len c k j hx hi
     obtain ⟨hb, h⟩ := h
     cases q with
     | none => exact h.elim
     | some a =>
      refine ⟨_, ?_, h⟩
      unfold execOp
      simp only [ho, hx, hi]
      apply pr_v
      unfold Instr.indexAt
      simp only [pr_bind, asIntOf_int, Option.bind_some, T.prUd ht, pr_pure, if_pos hb, T.prSz hn]
    ·exact h.elim
   ·cases hp
  ·cases hp
 case index t x i =>
  split at hp
  ·rename_i ht
   cases hp
   split at h
   ·rename_i s k j hx hi
    obtain ⟨hb, h⟩ := h
    refine ⟨_, ?_, h⟩
    unfold execOp
    simp only [ho, hx, hi]
    apply pr_v
    unfold Instr.index
    have hlt : j.toNat < s.size := by omega
    simp only [pr_bind, asIntOf_int, Option.bind_some, T.prUd ht, if_pos hb.1, getElem?_pos s j.toNat hlt, pr_pure, bt, Option.getD_some]
   ·exact h.elim
  ·rename_i len el ht
   split at hp
   ·rename_i d n hd hn
    cases hag : isAggD d with
    | true => rw [hag] at hp; cases hp
    | false =>
     rw [hag] at hp
     cases hp
     split at h
     ·rename_i cs k j hx hi
      obtain ⟨hb, h⟩ := h
      obtain ⟨v, hv, h⟩ := gen1_ex _ h
      refine ⟨_, ?_, h⟩
      unfold execOp
      simp only [ho, hx, hi]
      apply pr_v
      unfold Instr.index part
      simp only [Array.getElem?_toList] at hv
      simp only [pr_bind, asIntOf_int, Option.bind_some, T.prUd ht, if_pos hb, T.prSz hn, isAgg_spec T hd, hag, Bool.false_eq_true, if_false, hv, pr_pure]
     ·exact h.elim
   ·cases hp
  ·cases hp
 case field t x f =>
  split at hp
  ·rename_i fs ht
   split at hp
   ·rename_i fd hf
    cases hp
    split at h
    ·rename_i cs hx
     obtain ⟨v, hv, hK⟩ := partK_spec T h
     refine ⟨v, ?_, hK⟩
     unfold execOp
     simp only [ho, hx]
     apply pr_v
     unfold Instr.field
     simp only [Array.getElem?_toList] at hf
     simp only [pr_bind, T.prUd ht, Option.bind_some, hf]
     simp only [pr_bind, asAgg, pr_pure, Option.bind_some, hv]
    ·exact h.elim
   ·cases hp
  ·cases hp
 case slice t x lo hi mx =>
  split at hp
  ·rename_i el ht
   split at hp
   ·rename_i n hn
    cases hp
    obtain ⟨v, hv, hK⟩ := sliceK_spec T ht hn h
    exact ⟨v, by unfold execOp; simp only [ho]; exact pr_v _ hv, hK⟩
   ·cases hp
  ·rename_i ht
   split at hp
   ·cases hp
    obtain ⟨v, hv, hK⟩ := sliceS_spec T ht h
    exact ⟨v, by unfold execOp; simp only [ho]; exact pr_v _ hv, hK⟩
   ·cases hp
  ·cases hp
 case extract t i =>
  cases hp
  split at h
  ·rename_i vs hx
   split at h
   ·rename_i v hv
    refine ⟨_, ?_, h⟩
    unfold execOp
    simp only [ho, hx]
    apply pr_v
    simp only [Array.getElem?_toList] at hv
    simp only [Instr.extract, hv, pr_pure]
   ·exact h.elim
  ·exact h.elim
 case build t ps =>
  have hps : (ps.map λ (x : Nat × Operand) => (x.1, e x.2)).toList = ps.toList.map λ p => (p.1, e p.2) := by simp
  split at hp
  ·rename_i z hz
   split at hp
   ·rename_i fs ht
    cases hp
    cases hal : allSz E fs.toList with
    | false => rw [hal] at h; exact h.elim
    | true => ?_
    rw [hal] at h
    have hall := allSz_spec hal
    obtain ⟨l, hl, hk⟩ := fillK_spec (place' := λ i => ((fs.toList.map λ f => (f.offset, (E.sz f.type).getD 0)).toArray)[i]?) (λ i a b c hx => by
      simp only [List.getElem?_toArray, List.getElem?_map]
      unfold fieldPl at hx
      split at hx
      ·rename_i f hf
       split at hx
       ·rename_i n d hn hd; cases hx; simp only [hf, Option.map_some, hn, Option.getD_some]
       ·cases hx
      ·cases hx) _ h
    refine ⟨_, ?_, hk⟩
    unfold execOp
    simp only [ho]
    apply pr_v
    unfold Instr.build
    simp only [pr_bind, T.prZv hz, T.prUd ht, Option.bind_some]
    rw [show (fs.mapM λ f => do pure (f.offset, <- sizeOf f.type) : Sem (Array (Nat × Nat))) = (List.toArray <$> fs.toList.mapM λ f => do pure (f.offset, <- sizeOf f.type)) from by rw [<- Array.mapM_eq_mapM_toList]]
    rw [pr_map, mapM_places T fs.toList hall]
    simp only [Option.map_some, Option.bind_some]
    simp only [hps, Array.toArray_toList] at hl ⊢
    simp only [hl, pr_pure]
   ·rename_i len el ht
    split at hp
    ·rename_i n d hn hd
     cases hp
     obtain ⟨l, hl, hk⟩ := fillK_spec (place' := λ i => some (i * n, n)) (λ i a b c hx => by unfold elemPl at hx; cases hx; rfl) _ h
     refine ⟨_, ?_, hk⟩
     unfold execOp
     simp only [ho]
     apply pr_v
     unfold Instr.build
     simp only [pr_bind, T.prZv hz, T.prUd ht, Option.bind_some, T.prSz hn]
     simp only [hps, Array.toArray_toList] at hl ⊢
     simp only [hl, pr_pure]
    ·cases hp
   ·cases hp
  ·cases hp
 case call c =>
  obtain ⟨callee, args, argTypes⟩ := c
  obtain ⟨al⟩ := args
  obtain ⟨tl⟩ := argTypes
  simp only at hp
  split at hp
  ·split at hp
   ·rename_i d x hd
    obtain ⟨t, ht, hd⟩ := Option.bind_eq_some_iff.1 hd
    cases hp
    split at h
    ·rename_i n c hx
     refine ⟨_, ?_, h⟩
     unfold execOp
     simp_all [resolve, pr_bind, pr_pure, invoke, builtin, Builtin.len_, T.prUd hd, goInt, pr_map]
    ·exact h.elim
   ·rename_i x hd
    obtain ⟨t, ht, hd⟩ := Option.bind_eq_some_iff.1 hd
    cases hp
    split at h
    ·rename_i n hx
     refine ⟨_, ?_, h⟩
     unfold execOp
     simp_all [resolve, pr_bind, pr_pure, invoke, builtin, Builtin.len_, T.prUd hd, goInt, pr_map]
    ·exact h.elim
   ·rename_i n d x hd
    obtain ⟨t, ht, hd⟩ := Option.bind_eq_some_iff.1 hd
    cases hp
    refine ⟨_, ?_, h⟩
    unfold execOp
    simp_all [resolve, pr_bind, pr_pure, invoke, builtin, Builtin.len_, T.prUd hd, goInt, pr_map]
   ·cases hp
  ·split at hp
   ·rename_i d x hd
    obtain ⟨t, ht, hd⟩ := Option.bind_eq_some_iff.1 hd
    cases hp
    split at h
    ·rename_i n c hx
     refine ⟨_, ?_, h⟩
     unfold execOp
     simp_all [resolve, pr_bind, pr_pure, invoke, builtin, Builtin.cap_, T.prUd hd, goInt, pr_map]
    ·exact h.elim
   ·cases hp
  ·split at hp
   ·cases hp
    split at h
    ·rename_i k a k2 b hx hy
     refine ⟨_, ?_, h⟩
     unfold execOp
     simp_all [resolve, pr_bind, pr_pure, invoke, builtin, Builtin.min_, Builtin.min2, minI, pr_map]
    ·exact h.elim
   ·cases hp
  ·split at hp
   ·cases hp
    split at h
    ·rename_i k a k2 b hx hy
     refine ⟨_, ?_, h⟩
     unfold execOp
     simp_all [resolve, pr_bind, pr_pure, invoke, builtin, Builtin.max_, Builtin.max2, maxI, pr_map]
    ·exact h.elim
   ·cases hp
  ·cases hp
end
end Go.Sl
namespace Go.Sl
open Go
variable {D : List Deferred}
abbrev Frm := Nat -> Value
def fput (ρ : Frm) (d : Nat) (v : Value) : Frm := λ t => bif Nat.beq t d then v else ρ t
def ev (ρ : Frm) : Operand -> Value
 | .tmp t => ρ t
 | .const v => v
 | .global g => .pointer (some ⟨g, 0, none⟩)
 | .func f => .func (.func f) #[] #[]
structure Ag (D : List Deferred) (n : Nat) (a : Act) (ρ : Frm) : Prop where
 size : a.tmps.size = n
 val : ∀ t, a.tmps.getD t undef = ρ t
 defers : a.defers = D
theorem Ag.eval {n : Nat} {a : Act} {ρ : Frm} (g : Ag D n a ρ) : a.eval = ev ρ := by
 funext x
 cases x <;> simp only [Act.eval, ev, g.val]
theorem Ag.put {n : Nat} {a : Act} {ρ : Frm} (g : Ag D n a ρ) {d : Nat} (h : d < n) (v : Value) : Ag D n (a.put (some d) v) (fput ρ d v) := by
 refine ⟨by simp [Act.put, g.size], λ t => ?_, by simp [Act.put, g.defers]⟩
 simp only [Act.put, fput]
 have hv := g.val t
 by_cases e : t = d
 ·subst e
  simp only [Nat.beq_refl, cond_true]
  simp [g.size, h]
 ·have : Nat.beq t d = false := by
   cases hb : Nat.beq t d with
   | false => rfl
   | true => exact absurd (Nat.eq_of_beq_eq_true hb) e
  rw [this, cond_false, <- hv]
  simp only [Array.getD_eq_getD_getElem?]
  rw [Array.getElem?_setIfInBounds_ne (λ x => e x.symm)]
def kput (n : Nat) (d : Option Nat) (v : Value) (K : Frm -> Prop) (ρ : Frm) : Prop :=
 match d with
 | none => K ρ
 | some d => bif Nat.blt d n then K (fput ρ d v) else False
theorem kput_spec {n : Nat} {d : Option Nat} {v : Value} {K : Frm -> Prop} {ρ : Frm} (h : kput n d v K ρ) {a : Act} (g : Ag D n a ρ) :
  ∃ ρ', Ag D n (a.put d v) ρ' /\ K ρ' /\ ∀ t, d ≠ some t -> ρ' t = ρ t := by
 unfold kput at h
 cases d with
 | none => exact ⟨ρ, g, h, λ _ _ => rfl⟩
 | some d =>
  simp only at h
  cases hb : Nat.blt d n with
  | false => rw [hb] at h; exact h.elim
  | true =>
   rw [hb] at h
   have : d < n := Nat.lt_of_succ_le (by simpa [Nat.blt, Nat.ble_eq] using hb)
   refine ⟨_, g.put this v, h, λ t ht => ?_⟩
   have : Nat.beq t d = false := by
    cases hb : Nat.beq t d with
    | false => rfl
    | true => exact absurd (congrArg some (Nat.eq_of_beq_eq_true hb).symm) ht
   simp only [fput, this, cond_false]
abbrev PK := List PanicEntry -> Heap -> Prop
def CallSl (P : Program) (G : Heap) (f : FuncId) (args : Array Value) (K : Value -> Heap -> Prop) (Kp : PK) (h : Heap) : Prop :=
 ∀ w F, Fr G w h F -> Calls P f args w λ e w' => match e with
  | .returned v => ∃ h', K v h' /\ Fr G w' h' F
  | .panicked c => ∃ h', Kp c h' /\ Fr G w' h' F
  | .outgrown => False
def nextK (P : Program) (G : Heap) (K : Value -> Heap -> Prop) (Kp : PK) : Next -> Heap -> Prop
 | .value v, h => K v h
 | .skip, h => K undef h
 | .enter f args, h => CallSl P G f args K Kp h
 | _, _ => False
def slN (P : Program) (G : Heap) (s : Sem Next) (K : Value -> Heap -> Prop) (Kp : PK) (h : Heap) : Prop :=
 sl P G s (nextK P G K Kp) (λ v h => Kp [{ v, recovered := false }] h) h
def slV (P : Program) (G : Heap) (s : Sem Value) (K : Value -> Heap -> Prop) (Kp : PK) (h : Heap) : Prop :=
 slN P G (do pure (Next.value (<- s))) K Kp h
def slU (P : Program) (G : Heap) (s : Sem Unit) (K : Value -> Heap -> Prop) (Kp : PK) (h : Heap) : Prop :=
 slN P G (do s; pure Next.skip) K Kp h
structure CallF (P : Program) (G : Heap) (f : FuncId) (args : Array Value) (K : Value -> Heap -> Prop) (Kp : PK) (h : Heap) : Prop where
 run : slN P G (callFunc f args) K Kp h
structure CallM (P : Program) (G : Heap) (recv : Value) (name : String) (args : Array Value) (K : Value -> Heap -> Prop) (Kp : PK) (h : Heap) : Prop where
 run : slN P G (callMethod recv name args) K Kp h
theorem op_wp {P : Program} {G : Heap} {o : Oper} {ρ : Frm} {n : Nat} {K : Value -> Heap -> Prop} {Kp : PK} {h : Heap} (hs : slN P G (execOp (ev ρ) o) K Kp h)
  {a : Act} {w : World} {F : RF} (g : Ag D n a ρ) (f : Fr G w h F) {next : Act -> World -> Prop} {Q : Exit -> Act -> World -> Prop}
  (hk : ∀ v h' w', K v h' -> Fr G w' h' F -> next (a.put o.dst v) w') (hp : ∀ c h' w', Kp c h' -> Fr G w' h' F -> Q (.panic c) a w') :
  o.wp P a w next Q ∨ (o.asks P a w /\ LetsOut Q) := by
 have := sl_run (execOp a.eval o) #[] f (by rw [g.eval]; exact hs)
 rcases this with h1 | h1
 ·exact h1.elim
 ·refine .inl ?_
  unfold Oper.wp
  revert h1
  generalize (execOp a.eval o).run P w = r
  intro h1
  cases r with
  | ok nx w' =>
   obtain ⟨h', hn, f'⟩ := h1
   cases nx <;> simp only [nextK] at hn
   case value v => exact hk _ _ _ hn f'
   case skip => exact hk _ _ _ hn f'
   case enter fn args =>
    refine Calls.mono (hn w' F f') λ e w'' he => ?_
    cases e with
    | returned v => obtain ⟨h2, hv, f2⟩ := he; exact hk _ _ _ hv f2
    | panicked c => obtain ⟨h2, hv, f2⟩ := he; exact hp _ _ _ hv f2
    | outgrown => exact he.elim
  | halt x w' =>
   cases x <;> simp only at h1
   case panic v => obtain ⟨h2, hv, f2⟩ := h1; exact hp _ _ _ hv f2
def ldL (G h : Heap) (a : Addr) : List Ty -> Nat -> (List Value -> Prop) -> Prop
 | [], _, K => K []
 | t :: ts, i, K => gen1 t λ v => hcell (rd G h) (a.add i) = some v /\ ldL G h a ts (i + 1) λ l => K (v :: l)
def leaves : Ty -> List Ty
 | .agg ts => ts
 | t => [t]
def ldK (E : TE) (G : Heap) (t : Nat) (x : Value) (K : Value -> Prop) (h : Heap) : Prop :=
 match x with
 | .pointer (some a) =>
  match E.ud t with
  | some d => bif isAggD d then (match E.sz t with
    | some n => bif Nat.beq (leaves (E.ty t)).length n then ldL G h a (leaves (E.ty t)) 0 (λ l => K (.agg l.toArray)) else False
    | none => False)
   else gen1 (E.ty t) λ v => hcell (rd G h) a = some v /\ K v
  | none => False
 | _ => False
def st1 (a : Addr) (v : Value) (K : Heap -> Prop) (h : Heap) : Prop :=
 plainV v = true /\ ∃ o, h a.block = some o /\ (∃ u, ocell o a = some u) /\ ofrozen o a.off = false /\ K (hupd h a.block (oset o a.off v))
def stL (a : Addr) : List Value -> Nat -> (Heap -> Prop) -> Heap -> Prop
 | [], _, K, h => K h
 | v :: vs, i, K, h => st1 (a.add i) v (λ h => stL a vs (i + 1) K h) h
def stK (E : TE) (t : Nat) (x v : Value) (K : Heap -> Prop) (h : Heap) : Prop :=
 match x with
 | .pointer (some a) =>
  match E.ud t, E.sz t with
  | some d, some n => bif isAggD d then (match v with
    | .agg cs => bif Nat.beq cs.toList.length n then stL a cs.toList 0 K h else False
    | _ => False)
   else bif Nat.beq n 1 then st1 a v K h else False
  | _, _ => False
 | _ => False
def newK (G : Heap) (o : Obj) (K : Nat -> Heap -> Prop) (h : Heap) : Prop := ∀ r, h r = none -> G r = none -> K r (hupd h r o)
def ptr (r : Nat) : Value := .pointer (some ⟨r, 0, none⟩)
theorem sl_bindPr {P : Program} {G : Heap} {α β : Type} {s : Sem α} {v : α} (hv : pr P s = some v) {f : α -> Sem β} {K : β -> Heap -> Prop} {Kp : Value -> Heap -> Prop} {h : Heap}
  (hk : sl P G (f v) K Kp h) : sl P G (s >>= f) K Kp h := by
 show sl P G (Sem.bind s f) K Kp h
 revert hv
 induction s <;> intro hv <;> simp only [pr, reduceCtorEq] at hv
 case pure a => simp only [Option.some.injEq] at hv; subst hv; exact hk
 case program k ih => simp only [Sem.bind, sl]; exact ih _ hv
theorem sl_loadCells {P : Program} {G h : Heap} {β : Type} (a : Addr) (ts : List Ty) : ∀ (i : Nat) (acc : Array Value) {f : Array Value -> Sem β} {K : β -> Heap -> Prop} {Kp : Value -> Heap -> Prop},
  ldL G h a ts i (λ l => sl P G (f (acc ++ l.toArray)) K Kp h) -> sl P G (loadCellsFrom a i ts.length acc >>= f) K Kp h := by
 induction ts with
 | nil =>
  intro i acc f K Kp h'
  have h2 : sl P G (f acc) K Kp h := by simpa [ldL] using h'
  exact h2
 | cons t ts ih =>
  intro i acc f K Kp h'
  obtain ⟨v, hv, hl⟩ := gen1_ex _ h'
  show sl P G (Sem.bind (Sem.bind (Sem.load .plain (a.add i) .pure) _) f) K Kp h
  refine ⟨v, hv, ?_⟩
  refine ih (i + 1) (acc.push v) ?_
  have : ∀ l : List Value, acc ++ (v :: l).toArray = acc.push v ++ l.toArray := λ l => by
   apply Array.ext'; simp
  simpa only [this] using hl
theorem bind_assoc' {α β γ : Type} (s : Sem α) (f : α -> Sem β) (g : β -> Sem γ) : ((s >>= f) >>= g) = (s >>= λ a => f a >>= g) := by
 show Sem.bind (Sem.bind s f) g = Sem.bind s λ a => Sem.bind (f a) g
 induction s <;> first
  | rfl
  | (rename_i ih; simp only [Sem.bind]; congr 1; funext x; exact ih x)
  | (rename_i ih; simp only [Sem.bind]; congr 1)
theorem pure_bind' {α β : Type} (a : α) (f : α -> Sem β) : ((pure a : Sem α) >>= f) = f a := rfl
theorem ldK_spec {P : Program} {E : TE} (T : TOk P E) {G h : Heap} {t : Nat} {x : Value} {K : Value -> Heap -> Prop} {Kp : PK} (hh : ldK E G t x (λ v => K v h) h) :
  slV P G (Instr.loadAt t x) K Kp h := by
 unfold ldK at hh
 split at hh
 ·rename_i a
  split at hh
  ·rename_i d hd
   unfold slV slN Instr.loadAt loadVar
   simp only [Instr.sureAddr, pure_bind', bind_assoc']
   refine sl_bindPr (isAgg_spec T hd) ?_
   cases hag : isAggD d
   ·rw [hag] at hh
    simp only [Bool.false_eq_true, if_false]
    obtain ⟨v, hv, hk⟩ := gen1_ex _ hh
    exact ⟨v, hv, hk⟩
   ·rw [hag] at hh
    simp only [cond_true] at hh
    simp only [if_true, bind_assoc', pure_bind']
    split at hh
    ·rename_i n hn
     refine sl_bindPr (T.prSz hn) ?_
     cases hb : Nat.beq (leaves (E.ty t)).length n with
     | false => rw [hb] at hh; exact hh.elim
     | true =>
      rw [hb] at hh
      have hl : (leaves (E.ty t)).length = n := Nat.eq_of_beq_eq_true hb
      rw [<- hl]
      unfold loadCells
      exact sl_loadCells a (leaves (E.ty t)) 0 #[] (by simpa [sl, nextK, pure] using hh)
    ·exact hh.elim
  ·exact hh.elim
 ·exact hh.elim
theorem sl_storeCells {P : Program} {G : Heap} {β : Type} (a : Addr) (vs : List Value) : ∀ (i : Nat) {f : Unit -> Sem β} {K : β -> Heap -> Prop} {Kp : Value -> Heap -> Prop} {h : Heap},
  stL a vs i (λ h => sl P G (f ()) K Kp h) h -> sl P G (storeCells a vs i >>= f) K Kp h := by
 induction vs with
 | nil => intro i f K Kp h hh; exact hh
 | cons v vs ih =>
  intro i f K Kp h hh
  obtain ⟨hp, o, ho, hu, hz, hk⟩ := hh
  exact ⟨hp, o, ho, hu, hz, ih (i + 1) hk⟩
theorem stK_spec {P : Program} {E : TE} (T : TOk P E) {G h : Heap} {t : Nat} {x v : Value} {K : Value -> Heap -> Prop} {Kp : PK} (hh : stK E t x v (λ h => K undef h) h) :
  slU P G (Instr.storeAt t x v) K Kp h := by
 unfold stK at hh
 split at hh
 ·rename_i a
  split at hh
  ·rename_i d n hd hn
   unfold slU slN Instr.storeAt storeVar
   simp only [Instr.sureAddr, pure_bind', bind_assoc']
   refine sl_bindPr (T.prSz hn) ?_
   cases hag : isAggD d
   ·rw [hag] at hh
    simp only [cond_false] at hh
    cases hb : Nat.beq n 1 with
    | false => rw [hb] at hh; exact hh.elim
    | true =>
     rw [hb] at hh
     have hl : n = 1 := Nat.eq_of_beq_eq_true hb
     subst hl
     simp only [cond_true] at hh
     have hc : v.cells = #[v] := by
      have := hh.1
      cases v <;> simp_all [plainV, Value.cells]
     simp only [hc, List.size_toArray, List.length_cons, List.length_nil, ne_eq, not_true_eq_false, if_false, pure_bind']
     refine sl_storeCells a [v] 0 ?_
     simp only [stL, add_zero]
     exact hh
   ·rw [hag] at hh
    simp only [cond_true] at hh
    split at hh
    ·rename_i cs
     cases hb : Nat.beq cs.toList.length n with
     | false => rw [hb] at hh; exact hh.elim
     | true =>
      rw [hb] at hh
      have hl : cs.toList.length = n := Nat.eq_of_beq_eq_true hb
      have hl' : cs.size = n := by simpa using hl
      simp only [Value.cells, hl', ne_eq, not_true_eq_false, if_false, pure_bind']
      exact sl_storeCells a cs.toList 0 hh
    ·exact hh.elim
  ·exact hh.elim
 ·exact hh.elim
end Go.Sl
namespace Go.Sl
open Go
def repL (z : List Value) : Nat -> List Value
 | 0 => []
 | n + 1 => z ++ repL z n
def castK (t : Ty) (v : Value) (K : Value -> Prop) : Prop := gen1 t λ u => v = u /\ K u
theorem castK_spec {t : Ty} {v : Value} {K : Value -> Prop} (h : castK t v K) : K v := by
 obtain ⟨u, rfl, hu⟩ := gen1_ex t h; exact hu
theorem sl_mono {P : Program} {G : Heap} {α : Type} (s : Sem α) : ∀ {K K' : α -> Heap -> Prop} {Kp : Value -> Heap -> Prop} {h : Heap}, (∀ a h, K a h -> K' a h) -> sl P G s K Kp h -> sl P G s K' Kp h := by
 induction s with
 | pure a => intro K K' Kp h hk hh; exact hk _ _ hh
 | load m a k ih => intro K K' Kp h hk ⟨v, hv, hh⟩; exact ⟨v, hv, ih v hk hh⟩
 | store m a v k ih => intro K K' Kp h hk ⟨hp, o, ho, hu, hz, hh⟩; exact ⟨hp, o, ho, hu, hz, ih hk hh⟩
 | new o k ih => intro K K' Kp h hk hh; exact λ r h1 h2 => ih r hk (hh r h1 h2)
 | shape r k ih => intro K K' Kp h hk ⟨o, ho, hh⟩; exact ⟨o, ho, ih _ hk hh⟩
 | freeze a n k ih =>
  intro K K' Kp h hk hh
  simp only [sl] at hh ⊢
  split
  ·rename_i h0; rw [if_pos h0] at hh; exact ih hk hh
  ·rename_i h0; rw [if_neg h0] at hh; obtain ⟨o, ho, hh⟩ := hh; exact ⟨o, ho, ih hk hh⟩
 | frozen a k ih => intro K K' Kp h hk ⟨o, ho, hh⟩; exact ⟨o, ho, ih _ hk hh⟩
 | getObj r k ih => intro K K' Kp h hk ⟨o, ho, hc, hh⟩; exact ⟨o, ho, hc, ih _ hk hh⟩
 | setObj r o k ih => intro K K' Kp h hk ⟨o', ho, hc, hh⟩; exact ⟨o', ho, hc, ih hk hh⟩
 | choose q k ih =>
  intro K K' Kp h hk hh
  simp only [sl] at hh ⊢
  split
  ·rename_i h0; rw [if_pos h0] at hh; exact ih _ hk hh
  ·rename_i h0; rw [if_neg h0] at hh; exact λ t => ih _ hk (hh t)
 | sys c k ih => intro K K' Kp h hk hh; exact hh.elim
 | program k ih => intro K K' Kp h hk hh; exact ih _ hk hh
 | mark m k ih =>
  intro K K' Kp h hk hh
  exact ih hk hh
 | halt x =>
  intro K K' Kp h hk hh
  cases x with
  | panic v => exact hh
  | _ => exact hh.elim
theorem CallSl.mono {P : Program} {G : Heap} {f : FuncId} {args : Array Value} {K K' : Value -> Heap -> Prop} {Kp : PK} {h : Heap} (hk : ∀ v h, K v h -> K' v h) (hh : CallSl P G f args K Kp h) :
  CallSl P G f args K' Kp h := λ w F f => Calls.mono (hh w F f) λ e w' he => by
 cases e with
 | returned v => obtain ⟨h', h1, h2⟩ := he; exact ⟨h', hk _ _ h1, h2⟩
 | panicked c => exact he
 | outgrown => exact he
theorem slN_mono {P : Program} {G : Heap} {s : Sem Next} {K K' : Value -> Heap -> Prop} {Kp : PK} {h : Heap} (hk : ∀ v h, K v h -> K' v h) (hh : slN P G s K Kp h) : slN P G s K' Kp h := by
 refine sl_mono s (λ n h hn => ?_) hh
 cases n <;> simp only [nextK] at hn ⊢
 case value v => exact hk _ _ hn
 case skip => exact hk _ _ hn
 case enter f args => exact hn.mono hk
def nextC (str : Bool) (v : Value) (K : Value -> Prop) : Prop :=
  (v = .tuple #[.bool false] /\ K (.tuple #[.bool false])) ∨
  (bif str then ∃ i c : Int, v = .tuple #[.bool true, .int .i64 i, .int .i32 c] /\ K (.tuple #[.bool true, .int .i64 i, .int .i32 c])
   else ∃ x y : Value, v = .tuple #[.bool true, x, y] /\ K (.tuple #[.bool true, x, y]))
theorem nextC_spec {str : Bool} {v : Value} {K : Value -> Prop} (h : nextC str v K) : K v := by
 rcases h with ⟨rfl, h⟩ | h
 ·exact h
 ·cases str
  ·obtain ⟨x, y, rfl, h⟩ := h; exact h
  ·obtain ⟨x, y, rfl, h⟩ := h; exact h
def ansK (E : TE) (o : Oper) (v : Value) (K : Value -> Prop) : Prop :=
 match o.op with
 | .next _ s => nextC s v K
 | .entry _ => castK E.ent v K
 | .mapEntry t _ _ => (match E.ud t with
  | some (.map _ el) => castK (.tup [E.ty el, .int .i64]) v K
  | _ => False)
 | .range _ _ => castK .ptr v K
 | .typeAssert _ _ t ok => bif ok then castK (.tup [E.ty t, .bool]) v K else castK (E.ty t) v K
 | _ => castK (E.ty o.type) v K
theorem ansK_spec {E : TE} {o : Oper} {v : Value} {K : Value -> Prop} (h : ansK E o v K) : K v := by
 unfold ansK at h
 split at h
 ·exact nextC_spec h
 ·exact castK_spec h
 ·split at h
  ·exact castK_spec h
  ·exact h.elim
 ·exact castK_spec h
 ·rename_i ok _
  cases ok
  ·exact castK_spec h
  ·exact castK_spec h
 ·exact castK_spec h
def CallV (P : Program) (G : Heap) (x : Value) (args : List Value) (K : Value -> Heap -> Prop) (Kp : PK) (h : Heap) : Prop :=
 match x with
 | .func (.func f) first cap => CallF P G f (first.toList ++ (args ++ cap.toList)).toArray K Kp h
 | _ => False
def vcOp (E : TE) (P : Program) (G : Heap) (o : Oper) (e : Operand -> Value) (K : Value -> Heap -> Prop) (Kp : PK) (h : Heap) : Prop :=
 match pureK E e o.op with
 | some p => p λ v => K v h
 | none =>
  match o.op with
  | .alloc t => (match E.zv t with
   | some z => newK G (.cells z.cells t) (λ r h => K (ptr r) h) h
   | none => False)
  | .box t x => (match E.ud t with
   | some d => bif isAggD d then newK G (.cells (e x).cells t) (λ r h => K (ptr r) h) h else plK (e x) (newK G (.cells #[e x] t) (λ r h => K (ptr r) h) h)
   | none => False)
  | .buildSlice t len ps => (match E.ud t with
   | some (.slice el) => (match E.sz el, E.zv el, E.ud el with
    | some n, some z, some d => bif Nat.beq z.cells.toList.length n && (Nat.ble 1 n && Nat.ble (len * n) 16777216) then
      fillK (elemPl n (isAggD d)) (repL z.cells.toList len) (λ l => newK G (.cells l.toArray el) (λ r h => K (.slice (some ⟨r, 0, none⟩) len len) h) h) (ps.toList.map λ p => (p.1, e p.2))
     else False
    | _, _, _ => False)
   | _ => False)
  | .load t x => ldK E G t (e x) (λ v => K v h) h
  | .store t x v => stK E t (e x) (e v) (λ h => K undef h) h
  | .call c => (match c.callee with
   | .value (.func f) => CallF P G f (c.args.toList.map e).toArray (λ v h => castK (E.ty o.type) v λ v => K v h) Kp h
   | .value x => CallV P G (e x) (c.args.toList.map e) (λ v h => castK (E.ty o.type) v λ v => K v h) Kp h
   | .invoke r m => CallM P G (e r) m (c.args.toList.map e).toArray (λ v h => castK (E.ty o.type) v λ v => K v h) Kp h
   | .builtin b => slN P G (builtin b c.argTypes o.type (c.args.map λ | .const _ => true | _ => false) (c.args.toList.map e).toArray) (λ v h => castK (E.ty o.type) v λ v => K v h) Kp h)
  | _ => slN P G (execOp e o) (λ v h => ansK E o v λ v => K v h) Kp h
theorem repL_length (z : List Value) (len : Nat) : (repL z len).length = len * z.length := by
 induction len with
 | zero => simp [repL]
 | succ len ih => simp [repL, ih, Nat.succ_mul, Nat.add_comm]
theorem repL_get (z : List Value) (len : Nat) : ∀ i, i < len * z.length -> (repL z len)[i]? = z[i % z.length]? := by
 induction len with
 | zero => intro i h; simp at h
 | succ len ih =>
  intro i h
  rw [Nat.succ_mul] at h
  simp only [repL]
  by_cases hi : i < z.length
  ·rw [List.getElem?_append_left hi, Nat.mod_eq_of_lt hi]
  ·rw [List.getElem?_append_right (by omega), ih (i - z.length) (by omega)]
   rw [Nat.mod_eq_sub_mod (by omega : i >= z.length)]
theorem repL_spec (z : List Value) (hz : z.length ≠ 0) (len : Nat) : (Array.range (len * z.length)).map (λ i => (z.toArray)[i % z.toArray.size]!) = (repL z len).toArray := by
 apply Array.ext_getElem?
 intro i
 simp only [Array.getElem?_map, List.getElem?_toArray, List.size_toArray]
 by_cases h : i < len * z.length
 ·rw [repL_get z len i h]
  have hm : i % z.length < z.length := Nat.mod_lt _ (by omega)
  simp [Array.getElem?_range, h, getElem!_pos, hm]
 ·have h1 : (repL z len)[i]? = none := List.getElem?_eq_none (by rw [repL_length]; omega)
  simp [Array.getElem?_range, h, h1]
theorem vcOp_spec {E : TE} {P : Program} (T : TOk P E) {G : Heap} {o : Oper} {ρ : Frm} {K : Value -> Heap -> Prop} {Kp : PK} {h : Heap} (hh : vcOp E P G o (ev ρ) K Kp h) :
  slN P G (execOp (ev ρ) o) K Kp h := by
 unfold vcOp at hh
 split at hh
 ·rename_i p hp
  obtain ⟨v, hv, hk⟩ := pureK_spec T (λ v => rfl) hp hh
  exact pr_sl _ hv hk
 ·split at hh
  ·rename_i t ho
   split at hh
   ·rename_i z hz
    unfold execOp Instr.alloc
    simp only [ho]
    unfold slN
    rw [bind_assoc']
    exact sl_bindPr (T.prZv hz) hh
   ·exact hh.elim
  ·rename_i t x ho
   unfold execOp
   simp only [ho]
   split at hh
   ·rename_i d hd
    cases hag : isAggD d with
    | true => rw [hag] at hh; exact hh
    | false =>
     rw [hag] at hh
     obtain ⟨hh, hc, _⟩ := plK_spec hh
     rw [<- hc] at hh
     exact hh
   ·exact hh.elim
  ·rename_i t len ps ho
   split at hh
   ·rename_i el ht
    split at hh
    ·rename_i n z d hn hz hd
     cases hb : Nat.beq z.cells.toList.length n && (Nat.ble 1 n && Nat.ble (len * n) 16777216) with
     | false => rw [hb] at hh; exact hh.elim
     | true =>
      rw [hb] at hh
      simp only [cond_true] at hh
      simp only [Bool.and_eq_true, Nat.beq_eq, Nat.ble_eq] at hb
      obtain ⟨hl, h1, h2⟩ := hb
      have hps : (ps.map λ (x : Nat × Operand) => (x.1, ev ρ x.2)).toList = ps.toList.map λ p => (p.1, ev ρ p.2) := by simp
      obtain ⟨l, hf, hh⟩ := fillK_spec (place' := λ i => some (i * n, n)) (λ i a b c hx => by unfold elemPl at hx; cases hx; rfl) _ hh
      unfold execOp Instr.buildSlice
      simp only [ho]
      unfold slN
      simp only [bind_assoc']
      refine sl_bindPr (T.prUd ht) ?_
      simp only [bind_assoc']
      refine sl_bindPr (T.prSz hn) ?_
      have h3 : ¬ (len * n > 2 ^ 24) := by
       have : (2 : Nat) ^ 24 = 16777216 := by decide
       omega
      simp only [if_neg h3, pure_bind']
      by_cases h0 : len * n = 0
      ·have hlen : len = 0 := by rcases Nat.mul_eq_zero.1 h0 with h | h <;> omega
       subst hlen
       simp only [repL] at hf
       have hr : Array.map (λ x => (#[] : Array Value)[x % (#[] : Array Value).size]!) (Array.range 0) = ([] : List Value).toArray := by simp
       simp only [Nat.zero_mul, if_true, pure_bind', hr, hps, hf]
       exact hh
      ·simp only [if_neg h0, bind_assoc', pure_bind']
       refine sl_bindPr (T.prZv hz) ?_
       have hcells : ((Array.range (len * n)).map λ i => z.cells[i % z.cells.size]!) = (repL z.cells.toList len).toArray := by
        have := repL_spec z.cells.toList (by omega) len
        simpa [hl] using this
       simp only [hcells, hps, hf]
       exact hh
    ·exact hh.elim
   ·exact hh.elim
  ·rename_i t x ho
   have := ldK_spec T (P := P) (Kp := Kp) hh
   unfold execOp
   simp only [ho]
   exact this
  ·rename_i t x v ho
   have := stK_spec T (P := P) (G := G) (Kp := Kp) (K := K) hh
   unfold execOp
   simp only [ho]
   exact this
  ·rename_i c ho
   obtain ⟨callee, args, argTypes⟩ := c
   unfold execOp
   simp only [ho]
   unfold resolve
   simp only [array_map]
   simp only at hh
   have hcast : ∀ v h, (castK (E.ty o.type) v λ v => K v h) -> K v h := λ v h => castK_spec
   split at hh
   ·rename_i f
    replace hh := slN_mono hcast hh.run
    simp only [ev, Deferred.ofValue, pure_bind', invoke]
    simpa using hh
   ·rename_i x hx
    unfold CallV at hh
    split at hh
    ·rename_i f first cap hfx
     replace hh := slN_mono hcast hh.run
     simp only [hfx, Deferred.ofValue, pure_bind', invoke]
     have he : (first.toList ++ (List.map (ev ρ) args.toList ++ cap.toList)).toArray = first ++ (List.map (ev ρ) args.toList).toArray ++ cap := by
      apply Array.ext'; simp
     rw [he] at hh
     exact hh
    ·exact hh.elim
   ·rename_i r m
    replace hh := slN_mono hcast hh.run
    simp only [pure_bind', invoke]
    have he : (#[ev ρ r] ++ (List.map (ev ρ) args.toList).toArray).extract 1 (#[ev ρ r] ++ (List.map (ev ρ) args.toList).toArray).size = (List.map (ev ρ) args.toList).toArray := by
     apply Array.ext'; simp
     rw [List.take_of_length_le (by simp)]
    rw [he]
    have h0 : (#[ev ρ r] ++ (List.map (ev ρ) args.toList).toArray)[0]? = some (ev ρ r) := by simp
    rw [h0]
    exact hh
   ·rename_i b
    replace hh := slN_mono hcast hh
    simp only [pure_bind', invoke]
    exact hh
  ·exact slN_mono (λ v h => ansK_spec) hh
end Go.Sl
namespace Go.Sl
open Go
def wpAnyS (P : Program) (ops : Array Oper) (S : Nat -> World -> World -> Prop) (Q : Exit -> Act -> World -> Prop) : Nat -> Array Bool -> Act -> World -> Prop
 | 0, listed, a, w => Region.ready .any ops listed = [] /\ Q .normal a w
 | fuel + 1, listed, a, w =>
  (Region.ready .any ops listed = [] -> Q .normal a w) /\
  ∀ i ∈ Region.ready .any ops listed, wpOp P ops Q i (λ a' w' => S i w w' /\ wpAnyS P ops S Q fuel (listed.setIfInBounds i true) a' w') a w
section
variable {P : Program} {ops : Array Oper} {Q : Exit -> Act -> World -> Prop} {S S' : Nat -> World -> World -> Prop}
theorem wpAnyS_any : ∀ (fuel : Nat) (listed : Array Bool) (a : Act) (w : World), wpAnyS P ops S Q fuel listed a w -> wpAny P .any ops Q fuel listed a w := by
 intro fuel
 induction fuel with
 | zero => intro listed a w h; exact h
 | succ fuel ih =>
  intro listed a w h
  exact ⟨h.1, λ i hi => wpOp_mono (λ a w hk => ih _ _ _ hk.2) (h.2 i hi)⟩
theorem wpAnyS_mono (hS : ∀ i w w', S i w w' -> S' i w w') : ∀ (fuel : Nat) (listed : Array Bool) (a : Act) (w : World), wpAnyS P ops S Q fuel listed a w -> wpAnyS P ops S' Q fuel listed a w := by
 intro fuel
 induction fuel with
 | zero => intro listed a w h; exact h
 | succ fuel ih =>
  intro listed a w h
  exact ⟨h.1, λ i hi => wpOp_mono (λ a w hk => ⟨hS _ _ _ hk.1, ih _ _ _ hk.2⟩) (h.2 i hi)⟩
def SameAt (ops : Array Oper) (o : Oper) (a0 a : Act) : Prop :=
 execOp a.eval o = execOp a0.eval o /\ Region.wanted o (yielded ops a.tmps) = Region.wanted o (yielded ops a0.tmps)
theorem wpOp_putS {j : Nat} {oi oj : Oper} {v : Value} {a0 : Act} (hj : ops[j]? = some oj) (hap : oi.apart ops oj = true)
  (hsi : ∀ cs b, oi.op ≠ .select cs b) (hsj : ∀ cs b, oj.op ≠ .select cs b)
  (hQ : ∀ c a w, Q (.panic c) (a.put oi.dst v) w -> Q (.panic c) a w) {K : Act -> World -> Prop} {a : Act} {w : World}
  (hy : SameAt ops oi a0 a) (h : wpOp P ops Q j K (a.put oi.dst v) w) :
  wpOp P ops Q j (λ a' w' => SameAt ops oi a0 a' /\ K (a'.put oi.dst v) w') a w := by
 obtain ⟨h1, h2, h3⟩ := Oper.apart_spec hap
 have keep : ∀ (a : Act), SameAt ops oi a0 a -> ∀ u, SameAt ops oi a0 (a.put oj.dst u) := λ a hy u =>
  ⟨(execOp_put oi hsi a oj.dst u h3).trans hy.1, (wanted_put oi a oj.dst u h3).trans hy.2⟩
 have keepD : ∀ d, SameAt ops oi a0 { a with defers := d :: a.defers } := λ d => hy
 unfold wpOp at *
 simp only [hj] at *
 rw [wanted_put oj a oi.dst v h1] at h
 split
 ·rename_i hw
  simp only [hw, if_true] at h
  rcases h with h | ⟨hasks, hlets⟩
  case inr => exact .inr ⟨by unfold Oper.asks at *; rw [execOp_put oj hsj a oi.dst v h1] at hasks; exact hasks, hlets⟩
  refine .inl ?_
  unfold Oper.wp at *
  rw [execOp_put oj hsj a oi.dst v h1] at h
  generalize (execOp a.eval oj).run P w = r at *
  cases r with
  | ok n w' =>
   cases n <;> simp only [Oper.upon] at h ⊢
   case value u => exact ⟨keep a hy u, by rw [<- Act.put_comm a v u h2]; exact h⟩
   case skip => exact ⟨keep a hy _, by rw [<- Act.put_comm a v undef h2]; exact h⟩
   case defer d =>
    refine ⟨keep _ (keepD d) _, ?_⟩
    rw [<- Act.put_comm _ v undef h2, <- Act.put_defers]
    exact h
   case enter f args =>
    refine Calls.mono h λ e w'' he => ?_
    cases e with
    | returned u => exact ⟨keep a hy u, by rw [<- Act.put_comm a v u h2]; exact he⟩
    | panicked c => exact hQ _ _ _ he
    | outgrown => exact he
   case row row args => exact Rows.mono h λ u w'' he => ⟨keep a hy u, by rw [<- Act.put_comm a v u h2]; exact he⟩
  | halt x w' =>
   cases x <;> simp only [Oper.upon] at h ⊢
   case panic u => exact hQ _ _ _ h
 ·rename_i hw
  simp only [hw] at h
  exact ⟨keep a hy _, by rw [<- Act.put_comm a v undef h2]; exact h⟩
def YieldsC (P : Program) (ops : Array Oper) (o : Oper) (v : Value) (C : World -> Prop) (a : Act) : Prop :=
 (Region.wanted o (yielded ops a.tmps) = true /\ ∀ w, C w -> (execOp a.eval o).run P w = .ok (.value v) w) ∨
 (Region.wanted o (yielded ops a.tmps) = false /\ v = undef)
theorem YieldsC.wpOp {i : Nat} {o : Oper} {v : Value} {C : World -> Prop} {a : Act} (hi : ops[i]? = some o) (hy : YieldsC P ops o v C a)
  {K : Act -> World -> Prop} {w : World} (hC : C w) (h : K (a.put o.dst v) w) : wpOp P ops Q i K a w := by
 unfold Go.wpOp
 simp only [hi]
 rcases hy with ⟨hw, hv⟩ | ⟨hw, rfl⟩
 ·simp only [hw, if_true, Oper.wp, hv w hC, Oper.upon]; exact .inl h
 ·simp only [hw, Bool.false_eq_true, if_false]; exact h
theorem YieldsC.of_same {o : Oper} {v : Value} {C : World -> Prop} {a0 a : Act} (hs : SameAt ops o a0 a) (hy : YieldsC P ops o v C a0) : YieldsC P ops o v C a := by
 unfold YieldsC at *
 rw [hs.1, hs.2]
 exact hy
theorem wpAnyS_first {i : Nat} {oi : Oper} {v : Value} {C : World -> Prop} {a0 : Act} (hi : ops[i]? = some oi) (hsel : ∀ (j : Nat) (o : Oper) cs b, ops[j]? = some o -> o.op ≠ .select cs b)
  (hQ : ∀ c a w, Q (.panic c) (a.put oi.dst v) w -> Q (.panic c) a w) (R : Array Bool -> Prop)
  (hR : ∀ listed j, R listed -> j ∈ Region.ready .any ops listed -> R (listed.setIfInBounds j true))
  (hS : ∀ j listed w w', R listed -> j ∈ Region.ready .any ops listed -> listed.getD i true = false -> C w -> S j w w' -> C w') (hSi : ∀ w, S' i w w) (hy : YieldsC P ops oi v C a0) :
  ∀ (fuel : Nat) (listed : Array Bool) (a : Act) (w : World), R listed ->
   (∀ j oj, ops[j]? = some oj -> j ≠ i -> listed.getD j true = false -> (∀ e ∈ oj.after, Region.binds .any e = true -> e.on ≠ i) -> oi.apart ops oj = true) ->
   i ∈ Region.ready .any ops listed -> SameAt ops oi a0 a -> C w ->
   (∀ i w w', S i w w' -> S' i w w') ->
   wpAnyS P ops S Q fuel (listed.setIfInBounds i true) (a.put oi.dst v) w -> wpAnyS P ops S' Q (fuel + 1) listed a w := by
 intro fuel
 induction fuel with
 | zero =>
  intro listed a w _ _ hr hsm hC hm H
  refine ⟨λ h => (by rw [h] at hr; cases hr), λ j hj => ?_⟩
  by_cases hji : j = i
  ·subst hji; exact (hy.of_same hsm).wpOp hi hC ⟨hSi w, H⟩
  ·have := ready_mono hj hji
   rw [H.1] at this
   cases this
 | succ fuel ih =>
  intro listed a w hRl hfree hr hsm hC hm H
  refine ⟨λ h => (by rw [h] at hr; cases hr), λ j hj => ?_⟩
  by_cases hji : j = i
  ·subst hji; exact (hy.of_same hsm).wpOp hi hC ⟨hSi w, wpAnyS_mono hm _ _ _ _ H⟩
  ·have h1 := H.2 j (ready_mono hj hji)
   obtain ⟨hjun, oj, hoj, hall⟩ := mem_ready.1 hj
   have hnot : ∀ e ∈ oj.after, Region.binds .any e = true -> e.on ≠ i := λ e he hb heq => by
    have h1 := hall e he hb
    have h0 := (mem_ready.1 hr).1
    rw [heq] at h1
    rcases Nat.lt_or_ge i listed.size with h' | h'
    ·simp [h'] at h0 h1; rw [h0] at h1; cases h1
    ·simp [Array.getElem?_eq_none h'] at h1
   have h2 := wpOp_putS (a0 := a0) hoj (hfree j oj hoj hji hjun hnot) (λ cs b => hsel i oi cs b hi) (λ cs b => hsel j oj cs b hoj) hQ hsm h1
   have hfree' : ∀ k ok, ops[k]? = some ok -> k ≠ i -> (listed.setIfInBounds j true).getD k true = false ->
     (∀ e ∈ ok.after, Region.binds .any e = true -> e.on ≠ i) -> oi.apart ops ok = true := λ k ok hk hki hun hno => by
    refine hfree k ok hk hki ?_ hno
    by_cases hjk : j = k
    ·subst hjk; exact hjun
    ·rw [getD_set_ne true hjk] at hun; exact hun
   refine wpOp_mono (λ a' w' h3 => ?_) h2
   obtain ⟨hs', hSj, hrest⟩ := h3
   have hC' := hS j listed w w' hRl hj (mem_ready.1 hr).1 hC hSj
   refine ⟨hm _ _ _ hSj, ih (listed.setIfInBounds j true) a' w' (hR _ _ hRl hj) hfree' (ready_mono hr (Ne.symm hji)) hs' hC' hm ?_⟩
   rw [Array.setIfInBounds_comm _ _ hji]
   exact hrest
end
end Go.Sl
namespace Go.Sl
open Go
variable {D : List Deferred}
def If (b : Bool) (A B : Prop) : Prop := bif b then A else B
theorem If.mk {b : Bool} {A B : Prop} (h1 : b = true -> A) (h2 : b = false -> B) : If b A B := by
 cases b
 ·exact h2 rfl
 ·exact h1 rfl
def QW (D : List Deferred) (n : Nat) (G : Heap) (F : RF) (X : Frm -> Prop) (Q : Exit -> Frm -> Heap -> Prop) (Kp : PK) : Exit -> Act -> World -> Prop
 | .outgrown, _, _ => False
 | .panic c, a, w => a.defers = D /\ ∃ h', Fr G w h' F /\ Kp c h'
 | e, a, w => ∃ ρ' h', Ag D n a ρ' /\ Fr G w h' F /\ X ρ' /\ Q e ρ' h'
def memB (x : Nat) : List Nat -> Bool
 | [] => false
 | y :: ys => bif Nat.beq x y then true else memB x ys
theorem memB_iff {x : Nat} {l : List Nat} : memB x l = true ↔ x ∈ l := by
 induction l with
 | nil => simp [memB]
 | cons y ys ih =>
  simp only [memB, List.mem_cons]
  cases hb : Nat.beq x y with
  | true => simp [Nat.eq_of_beq_eq_true hb]
  | false =>
   have : x ≠ y := λ e => by subst e; simp at hb
   simp [ih, this]
def splitG (f : Bool) (v : Value) (K : Value -> Prop) : Prop :=
 bif f then (match v with
  | .bool b => If b (K (.bool true)) (K (.bool false))
  | v => K v) else K v
theorem splitG_spec {f : Bool} {v : Value} {K : Value -> Prop} (h : splitG f v K) : K v := by
 unfold splitG at h
 cases f
 ·exact h
 ·simp only [cond_true] at h
  split at h
  ·rename_i b
   cases b
   ·exact h
   ·exact h
  ·exact h
def guardK (ol : List Oper) (n : Nat) (o : Oper) (ρ : Frm) (done : Prop) (skip : Frm -> Prop) : Prop :=
 match o.guard with
 | none => done
 | some (g, want) =>
  match (ol[g]?).bind (·.dst) with
  | some t => (match ρ t with
   | .bool b => If (bif want then b else !b) done (kput n o.dst undef skip ρ)
   | .tuple _ => kput n o.dst undef skip ρ
   | _ => False)
  | none => False
theorem Ag.getT {n : Nat} {a : Act} {ρ : Frm} (g : Ag D n a ρ) {t : Nat} {l : Array Value} (h : ρ t = .tuple l) : (match a.tmps[t]? with | some (.bool b) => some b | _ => none) = none := by
 have := g.val t
 rw [h, Array.getD_eq_getD_getElem?] at this
 cases ht : a.tmps[t]? with
 | none => rfl
 | some v =>
  rw [ht] at this
  simp only [Option.getD_some] at this
  subst this; rfl
theorem Ag.get {n : Nat} {a : Act} {ρ : Frm} (g : Ag D n a ρ) {t : Nat} {b : Bool} (h : ρ t = .bool b) : a.tmps[t]? = some (.bool b) := by
 have := g.val t
 rw [h, Array.getD_eq_getD_getElem?] at this
 cases ht : a.tmps[t]? with
 | none => rw [ht] at this; cases this
 | some v => rw [ht] at this; simpa using this
theorem guardK_spec {ops : Array Oper} {n : Nat} {o : Oper} {ρ : Frm} {done : Prop} {skip : Frm -> Prop} {a : Act} (g : Ag D n a ρ) (h : guardK ops.toList n o ρ done skip) :
  (Region.wanted o (yielded ops a.tmps) = true /\ done) ∨ (Region.wanted o (yielded ops a.tmps) = false /\ kput n o.dst undef skip ρ) := by
 unfold guardK at h
 unfold Region.wanted
 split at h
 ·rename_i hg; simp only [hg]; exact .inl ⟨trivial, h⟩
 ·rename_i gi want hg
  simp only [hg]
  split at h
  ·rename_i t ht
   split at h
   ·rename_i b hb
    have hy : yielded ops a.tmps gi = some b := by
     unfold yielded
     simp only [Array.getElem?_toList] at ht
     rw [ht]
     simp only [Option.bind_some, g.get hb]
    rw [hy]
    cases want <;> cases b <;> first | exact .inl ⟨rfl, h⟩ | exact .inr ⟨rfl, h⟩
   ·rename_i l hb
    have hy : yielded ops a.tmps gi = none := by
     unfold yielded
     simp only [Array.getElem?_toList] at ht
     rw [ht]
     exact g.getT hb
    rw [hy]
    exact .inr ⟨rfl, h⟩
   ·exact h.elim
  ·exact h.elim
def vcOne (E : TE) (P : Program) (G : Heap) (n : Nat) (ol : List Oper) (gs : List Nat) (i : Nat) (o : Oper) (K : Frm -> Heap -> Prop) (Kp : PK) (ρ : Frm) (h : Heap) : Prop :=
 guardK ol n o ρ (vcOp E P G o (ev ρ) (λ v h => splitG (memB i gs) v λ v => kput n o.dst v (λ ρ => K ρ h) ρ) Kp h) λ ρ => K ρ h
theorem vcOne_spec {E : TE} {P : Program} (T : TOk P E) {G : Heap} {F : RF} {n : Nat} {ops : Array Oper} {gs : List Nat} {i : Nat} {o : Oper} (hi : ops[i]? = some o)
  {K : Frm -> Heap -> Prop} {Q : Exit -> Frm -> Heap -> Prop} {Kp : PK} {ρ : Frm} {h : Heap} (hh : vcOne E P G n ops.toList gs i o K Kp ρ h) {a : Act} {w : World} (g : Ag D n a ρ) (f : Fr G w h F)
  {X : Frm -> Prop} {next : Act -> World -> Prop} (hk : ∀ ρ' h' a' w', K ρ' h' -> (∀ t, o.dst ≠ some t -> ρ' t = ρ t) -> Ag D n a' ρ' -> Fr G w' h' F -> next a' w') :
  wpOp P ops (QW D n G F X Q Kp) i next a w := by
 unfold wpOp
 simp only [hi]
 rcases guardK_spec g hh with ⟨hw, hd⟩ | ⟨hw, hs⟩
 ·rw [if_pos hw]
  refine op_wp (vcOp_spec T hd) g f (λ v h' w' hv f' => ?_) (λ c h' w' hc f' => ⟨g.defers, h', f', hc⟩)
  obtain ⟨ρ', g', hK, hX⟩ := kput_spec (splitG_spec hv) g
  exact hk _ _ _ _ hK hX g' f'
 ·rw [if_neg (by simp [hw])]
  obtain ⟨ρ', g', hK, hX⟩ := kput_spec hs g
  exact hk _ _ _ _ hK hX g' f
def vcRun (E : TE) (P : Program) (G : Heap) (n : Nat) (ol : List Oper) (gs : List Nat) : List Oper -> Nat -> (Frm -> Heap -> Prop) -> PK -> Frm -> Heap -> Prop
 | [], _, K, _, ρ, h => K ρ h
 | o :: rest, i, K, Kp, ρ, h => vcOne E P G n ol gs i o (λ ρ h => vcRun E P G n ol gs rest (i + 1) K Kp ρ h) Kp ρ h
theorem vcRun_spec {E : TE} {P : Program} (T : TOk P E) {G : Heap} {F : RF} {n : Nat} {ops : Array Oper} {gs : List Nat} {X : Frm -> Prop} {Q : Exit -> Frm -> Heap -> Prop} {Kp : PK}
  (hX : ∀ o ρ ρ', o ∈ ops -> (∀ t, o.dst ≠ some t -> ρ' t = ρ t) -> X ρ -> X ρ') (rest : List Oper) : ∀ (i : Nat) {ρ : Frm} {h : Heap},
  (∀ j, rest[j]? = ops[i + j]?) -> vcRun E P G n ops.toList gs rest i (λ ρ h => Q .normal ρ h) Kp ρ h -> ∀ {a : Act} {w : World}, Ag D n a ρ -> Fr G w h F -> X ρ ->
  wpOps P ops (QW D n G F X Q Kp) (List.range' i rest.length) a w := by
 induction rest with
 | nil => intro i ρ h _ hh a w g f hx; exact ⟨ρ, h, g, f, hx, hh⟩
 | cons o rest ih =>
  intro i ρ h hr hh a w g f hx
  simp only [List.length_cons, List.range'_succ]
  rw [wpOps_cons]
  have ho : ops[i]? = some o := by simpa using (hr 0).symm
  refine vcOne_spec T ho hh g f λ ρ' h' a' w' hK hd g' f' => ?_
  exact ih (i + 1) (λ j => by have := hr (j + 1); simpa [Nat.add_assoc, Nat.add_comm 1 j] using this) hK g' f' (hX o ρ ρ' (Array.mem_of_getElem? ho) hd hx)
def guardsOf : List Oper -> List Nat
 | [] => []
 | o :: os => match o.guard with
  | some (g, _) => g :: guardsOf os
  | none => guardsOf os
def bindsB (e : Edge) : Bool := match e.ground with
 | .textOnly _ => false
 | .gcOnly _ => false
 | _ => true
theorem bindsB_eq (e : Edge) : Region.binds .any e = bindsB e := by
 unfold Region.binds bindsB
 split <;> first | rfl | (split <;> simp_all)
def rdyE (len : Nat) (rem : List Nat) : List Edge -> Bool
 | [] => true
 | e :: es => (bif bindsB e then (bif Nat.blt e.on len then !memB e.on rem else false) else true) && rdyE len rem es
def rdyB (ol : List Oper) (rem : List Nat) (j : Nat) : Bool :=
 match ol[j]? with
 | some o => rdyE ol.length rem o.after.toList
 | none => false
def hasPred (i : Nat) : List Edge -> Bool
 | [] => false
 | e :: es => bif bindsB e && Nat.beq e.on i then true else hasPred i es
def opsL (o : Op) : List Nat := o.operands.toList.filterMap λ | .tmp t => some t | _ => none
def looksL (ol : List Oper) (o : Oper) : List Nat :=
  opsL o.op ++ (match o.guard with
   | some (g, _) => ((ol[g]?).bind (·.dst)).toList
   | none => [])
def apartB (ol : List Oper) (x y : Oper) : Bool :=
  (match x.dst with
   | some d => (!memB d (looksL ol y)) && (match y.dst with | some d' => !Nat.beq d' d | none => true)
   | none => true) &&
  (match y.dst with
   | some d => !memB d (looksL ol x)
   | none => true)
def freeB (ol : List Oper) (oi : Oper) (i : Nat) : List Nat -> Bool
 | [] => true
 | j :: js => (bif Nat.beq j i then true else match ol[j]? with
   | some oj => bif hasPred i oj.after.toList then true else apartB ol oi oj
   | none => true) && freeB ol oi i js
def noSel : List Oper -> Bool
 | [] => true
 | o :: os => (match o.op with | .select .. => false | _ => true) && noSel os
def anyE (f : Nat -> Bool) : List Edge -> Bool
 | [] => false
 | e :: es => bif bindsB e && f e.on then true else anyE f es
def ancB (ol : List Oper) : Nat -> Nat -> Nat -> Bool
 | 0, _, _ => false
 | d + 1, i, j => match ol[j]? with
  | some o => anyE (λ k => Nat.beq k i || ancB ol d i k) o.after.toList
  | none => false
theorem rdyE_iff {len : Nat} {rem : List Nat} {es : List Edge} : rdyE len rem es = true ↔ ∀ e ∈ es, bindsB e = true -> e.on < len /\ e.on ∉ rem := by
 induction es with
 | nil => simp [rdyE]
 | cons e es ih =>
  simp only [rdyE, Bool.and_eq_true, ih, List.forall_mem_cons]
  cases hb : bindsB e with
  | false => simp
  | true =>
   simp only [cond_true, forall_const]
   cases hl : Nat.blt e.on len with
   | false =>
    have : ¬ e.on < len := λ h => by
     have h2 : Nat.ble (e.on + 1) len = true := by simpa using Nat.succ_le_of_lt h
     simp only [Nat.blt] at hl; rw [hl] at h2; cases h2
    simp [this]
   | true =>
    have : e.on < len := Nat.lt_of_succ_le (by simpa [Nat.blt] using hl)
    have hm : (!memB e.on rem) = true ↔ e.on ∉ rem := by
     rw [<- memB_iff]; simp
    simp [this, hm]
theorem hasPred_iff {i : Nat} {es : List Edge} : hasPred i es = true ↔ ∃ e ∈ es, bindsB e = true /\ e.on = i := by
 induction es with
 | nil => simp [hasPred]
 | cons e es ih =>
  simp only [hasPred, List.mem_cons, exists_eq_or_imp, or_and_right, exists_or, exists_eq_left]
  cases hb : bindsB e && Nat.beq e.on i with
  | true =>
   simp only [Bool.and_eq_true, Nat.beq_eq] at hb
   simp [hb.1, hb.2]
  | false =>
   simp only [cond_false, ih]
   have : ¬ (bindsB e = true /\ e.on = i) := λ h => by
    rw [h.1, h.2] at hb; simp at hb
   simp [this]
structure LInv (ops : Array Oper) (listed : Array Bool) (rem : List Nat) : Prop where
 size : listed.size = ops.size
 mem : ∀ j, j < ops.size -> (listed.getD j true = false ↔ j ∈ rem)
 lt : ∀ j ∈ rem, j < ops.size
theorem LInv.ready {ops : Array Oper} {listed : Array Bool} {rem : List Nat} (L : LInv ops listed rem) {j : Nat} :
  j ∈ Region.ready .any ops listed ↔ j ∈ rem /\ rdyB ops.toList rem j = true := by
 rw [mem_ready]
 unfold rdyB
 have key : ∀ k, k < ops.size -> (listed.getD k false = true ↔ k ∉ rem) := λ k hk => by
  rw [<- L.mem k hk]
  have : k < listed.size := by rw [L.size]; exact hk
  simp [this]
 have key2 : ∀ k, listed.getD k false = true -> k < ops.size := λ k hk => by
  rcases Nat.lt_or_ge k listed.size with h | h
  ·rw [<- L.size]; exact h
  ·simp [Array.getElem?_eq_none h] at hk
 constructor
 ·rintro ⟨h0, o, ho, hall⟩
  have hlt : j < ops.size := (Array.getElem?_eq_some_iff.1 ho).1
  refine ⟨(L.mem j hlt).1 h0, ?_⟩
  simp only [Array.getElem?_toList, ho, Array.length_toList]
  rw [rdyE_iff]
  intro e he hb
  have := hall e (by simpa using he) (by rw [bindsB_eq]; exact hb)
  exact ⟨key2 _ this, (key _ (key2 _ this)).1 this⟩
 ·rintro ⟨hm, hr⟩
  have hlt := L.lt j hm
  have ho : ops[j]? = some ops[j] := Array.getElem?_eq_getElem hlt
  simp only [Array.getElem?_toList, ho, Array.length_toList] at hr
  rw [rdyE_iff] at hr
  refine ⟨(L.mem j hlt).2 hm, _, ho, λ e he hb => ?_⟩
  obtain ⟨h1, h2⟩ := hr e (by simpa using he) (by rw [<- bindsB_eq]; exact hb)
  exact (key _ h1).2 h2
theorem LInv.erase {ops : Array Oper} {listed : Array Bool} {rem : List Nat} (L : LInv ops listed rem) (hn : rem.Nodup) {j : Nat} (hj : j ∈ rem) :
  LInv ops (listed.setIfInBounds j true) (rem.erase j) := by
 refine ⟨by simp [L.size], λ k hk => ?_, λ k hk => L.lt k (List.mem_of_mem_erase hk)⟩
 by_cases e : j = k
 ·subst e
  have : j < listed.size := by rw [L.size]; exact hk
  simp [this, hn.not_mem_erase]
 ·rw [getD_set_ne true e, L.mem k hk, List.mem_erase_of_ne (λ x => e x.symm)]
theorem opsL_mem {o : Oper} {ops : Array Oper} {d : Nat} : d ∈ o.looksAt ops ↔ d ∈ looksL ops.toList o := by
 unfold Oper.looksAt looksL opsL
 cases hg : o.guard with
 | none => simp; exact Iff.rfl
 | some g => simp; exact Iff.rfl
theorem apartB_spec {ops : Array Oper} {x y : Oper} (h : apartB ops.toList x y = true) : x.apart ops y = true := by
 unfold apartB at h
 unfold Oper.apart
 have hm : ∀ (d : Nat) (o : Oper), (!memB d (looksL ops.toList o)) = true -> (o.looksAt ops).contains d = false := λ d o hd => by
  have : d ∉ o.looksAt ops := λ hx => by
   rw [opsL_mem, <- memB_iff] at hx; rw [hx] at hd; cases hd
  simpa using this
 simp only [Bool.and_eq_true] at h ⊢
 obtain ⟨h1, h2⟩ := h
 constructor
 ·cases hx : x.dst with
  | none => rfl
  | some d =>
   simp only [hx, Bool.and_eq_true] at h1
   simp only [hm d y h1.1, Bool.not_false, Bool.true_and]
   cases hy : y.dst with
   | none => rfl
   | some d' =>
    simp only [hy] at h1
    have := h1.2
    simp only [bne_iff_ne, ne_eq, Option.some.injEq]
    intro e; subst e; simp at this
 ·cases hy : y.dst with
  | none => rfl
  | some d =>
   simp only [hy] at h2
   simp only [hm d x h2, Bool.not_false]
theorem freeB_spec {ops : Array Oper} {oi : Oper} {i : Nat} {rem : List Nat} (h : freeB ops.toList oi i rem = true) {j : Nat} {oj : Oper} (hj : ops[j]? = some oj) (hm : j ∈ rem) (hne : j ≠ i)
  (hno : ∀ e ∈ oj.after, Region.binds .any e = true -> e.on ≠ i) : oi.apart ops oj = true := by
 induction rem with
 | nil => cases hm
 | cons k ks ih =>
  simp only [freeB, Bool.and_eq_true] at h
  rcases List.mem_cons.1 hm with rfl | hm
  ·have h1 := h.1
   have : Nat.beq j i = false := by
    cases hb : Nat.beq j i with
    | false => rfl
    | true => exact absurd (Nat.eq_of_beq_eq_true hb) hne
   simp only [this, cond_false, Array.getElem?_toList, hj] at h1
   cases hp : hasPred i oj.after.toList with
   | true =>
    obtain ⟨e, he, hb, ho⟩ := hasPred_iff.1 hp
    exact absurd ho (hno e (by simpa using he) (by rw [bindsB_eq]; exact hb))
   | false => rw [hp] at h1; exact apartB_spec h1
  ·exact ih h.2 hm
theorem noSel_spec {ops : Array Oper} (h : noSel ops.toList = true) (j : Nat) (o : Oper) (cs : Array SelectCase) (b : Bool) (ho : ops[j]? = some o) : o.op ≠ .select cs b := by
 intro he
 have hm : o ∈ ops.toList := by simpa using Array.mem_of_getElem? ho
 revert h hm
 generalize ops.toList = l
 intro h hm
 induction l with
 | nil => cases hm
 | cons x xs ih =>
  simp only [noSel, Bool.and_eq_true] at h
  rcases List.mem_cons.1 hm with rfl | hm
  ·simp [he] at h
  ·exact ih h.2 hm
def Closed (ops : Array Oper) (listed : Array Bool) : Prop :=
 ∀ k o, ops[k]? = some o -> listed.getD k true = true -> ∀ e ∈ o.after, Region.binds .any e = true -> listed.getD e.on false = true
theorem Closed.step {ops : Array Oper} {listed : Array Bool} (c : Closed ops listed) {j : Nat} (hj : j ∈ Region.ready .any ops listed) : Closed ops (listed.setIfInBounds j true) := by
 intro k o ho hk e he hb
 obtain ⟨_, oj, hoj, hall⟩ := mem_ready.1 hj
 by_cases h : j = k
 ·subst h
  rw [hoj] at ho; cases ho
  exact getD_set_true (hall e he hb)
 ·rw [getD_set_ne true h] at hk
  exact getD_set_true (c k o ho hk e he hb)
theorem anyE_spec {f : Nat -> Bool} {es : List Edge} (h : anyE f es = true) : ∃ e ∈ es, bindsB e = true /\ f e.on = true := by
 induction es with
 | nil => cases h
 | cons e es ih =>
  simp only [anyE] at h
  cases hb : bindsB e && f e.on with
  | true => simp only [Bool.and_eq_true] at hb; exact ⟨e, List.mem_cons_self, hb⟩
  | false =>
   rw [hb] at h
   obtain ⟨e', h1, h2⟩ := ih h
   exact ⟨e', List.mem_cons_of_mem _ h1, h2⟩
theorem ancB_listed {ops : Array Oper} {listed : Array Bool} (c : Closed ops listed) : ∀ (d i j : Nat), ancB ops.toList d i j = true ->
  (∀ o, ops[j]? = some o -> ∀ e ∈ o.after, Region.binds .any e = true -> listed.getD e.on false = true) -> listed.getD i false = true
 | 0, i, j, h, _ => by simp [ancB] at h
 | d + 1, i, j, h, hp => by
  simp only [ancB, Array.getElem?_toList] at h
  cases ho : ops[j]? with
  | none => rw [ho] at h; cases h
  | some o =>
   rw [ho] at h
   obtain ⟨e, he, hb, hf⟩ := anyE_spec h
   have hl := hp o ho e (by simpa using he) (by rw [bindsB_eq]; exact hb)
   simp only [Bool.or_eq_true] at hf
   rcases hf with h1 | h1
   ·rw [<- Nat.eq_of_beq_eq_true h1]; exact hl
   ·refine ancB_listed c d i e.on h1 λ o ho e' he' hb' => c e.on o ho ?_ e' he' hb'
    rcases Nat.lt_or_ge e.on listed.size with h' | h'
    ·simp [h'] at hl ⊢; exact hl
    ·simp [Array.getElem?_eq_none h']
end Go.Sl
namespace Go.Sl
open Go
abbrev WL := List (Addr × Value)
def cellsAt (a : Addr) : List Value -> Nat -> WL
 | [], _ => []
 | v :: l, i => (a.add i, v) :: cellsAt a l (i + 1)
def ldW (E : TE) (G h : Heap) (t : Nat) (x : Value) (K : Value -> WL -> Prop) : Prop :=
 match x with
 | .pointer (some a) =>
  match E.ud t with
  | some d => bif isAggD d then (match E.sz t with
    | some n => bif Nat.beq (leaves (E.ty t)).length n then ldL G h a (leaves (E.ty t)) 0 (λ l => K (.agg l.toArray) (cellsAt a l 0)) else False
    | none => False)
   else gen1 (E.ty t) λ v => hcell (rd G h) a = some v /\ K v [(a, v)]
  | none => False
 | _ => False
def vcQ (E : TE) (G h : Heap) (e : Operand -> Value) (o : Op) (K : Value -> WL -> Prop) : Prop :=
 match o with
 | .load t x => ldW E G h t (e x) K
 | o => match pureK E e o with
  | some p => p λ v => K v []
  | none => False
def isLd : Op -> Bool
 | .load .. => true
 | _ => false
def quietB (E : TE) (o : Op) : Bool := isLd o || (pureK E (λ _ => undef) o).isSome
def findQ (E : TE) (ol : List Oper) (rem : List Nat) : List Nat -> Option Nat
 | [] => none
 | j :: js => match ol[j]? with
  | some o => bif rdyB ol rem j && quietB E o.op then some j else findQ E ol rem js
  | none => findQ E ol rem js
def watK (G h : Heap) : WL -> Prop -> Prop
 | [], K => K
 | (a, v) :: l, K => hcell (rd G h) a = some v /\ watK G h l K
def watW (ol : List Oper) (G h : Heap) (j : Nat) : List (Nat × WL) -> Prop -> Prop
 | [], K => K
 | (i, cs) :: W, K => bif ancB ol 5 i j then watW ol G h j W K else watK G h cs (watW ol G h j W K)
def allN (ol : List Oper) (f : Nat -> Oper -> Prop) : List Nat -> Prop
 | [] => False
 | [j] => (match ol[j]? with | some o => f j o | none => False)
 | j :: js => (match ol[j]? with | some o => f j o | none => False) /\ allN ol f js
def addW (i : Nat) (cs : WL) (W : List (Nat × WL)) : List (Nat × WL) :=
 match cs with
 | [] => W
 | cs => (i, cs) :: W
def vcAny (E : TE) (P : Program) (G : Heap) (n : Nat) (ol : List Oper) (gs : List Nat) (K : Frm -> Heap -> Prop) (Kp : PK) : Nat -> List Nat -> List (Nat × WL) -> Frm -> Heap -> Prop
 | 0, rem, _, ρ, h => (match rem with | [] => K ρ h | _ :: _ => False)
 | fuel + 1, rem, W, ρ, h =>
  match rem with
  | [] => K ρ h
  | _ :: _ =>
   match findQ E ol rem rem with
   | some i => (match ol[i]? with
    | some o => bif freeB ol o i rem then
      guardK ol n o ρ (vcQ E G h (ev ρ) o.op λ v cs => splitG (memB i gs) v λ v =>
       kput n o.dst v (λ ρ => vcAny E P G n ol gs K Kp fuel (rem.erase i) (addW i cs W) ρ h) ρ)
       λ ρ => vcAny E P G n ol gs K Kp fuel (rem.erase i) W ρ h
     else False
    | none => False)
   | none => allN ol (λ j o => vcOne E P G n ol gs j o (λ ρ h => watW ol G h j W (vcAny E P G n ol gs K Kp fuel (rem.erase j) W ρ h)) Kp ρ h) (rem.filter (rdyB ol rem))
theorem run_loadCells {P : Program} {w : World} {a : Addr} (l : List Value) : ∀ (i : Nat) (acc : Array Value), (∀ q ∈ cellsAt a l i, w.cell? q.1 = some q.2) ->
  (loadCellsFrom a i l.length acc).run P w = .ok (acc ++ l.toArray) w := by
 induction l with
 | nil => intro i acc _; simp [loadCellsFrom, Sem.run, pure]
 | cons v l ih =>
  intro i acc h
  have h0 := h (a.add i, v) List.mem_cons_self
  have : (loadCellsFrom a i (v :: l).length acc).run P w = (loadCellsFrom a (i + 1) l.length (acc.push v)).run P w := by
   show (Sem.bind (Sem.load .plain (a.add i) .pure) _).run P w = _
   simp only [Sem.bind, Sem.run, h0]
  rw [this, ih (i + 1) (acc.push v) λ q hq => h q (List.mem_cons_of_mem _ hq)]
  congr 1
  apply Array.ext'; simp
theorem ldL_cells {G h : Heap} {a : Addr} (ts : List Ty) : ∀ (i : Nat) {K : List Value -> Prop}, ldL G h a ts i K -> ∃ l, l.length = ts.length /\ K l /\ ∀ q ∈ cellsAt a l i, hcell (rd G h) q.1 = some q.2 := by
 induction ts with
 | nil => intro i K hh; exact ⟨[], rfl, hh, λ q hq => by cases hq⟩
 | cons t ts ih =>
  intro i K hh
  obtain ⟨v, hv, hl⟩ := gen1_ex _ hh
  obtain ⟨l, h1, h2, h3⟩ := ih (i + 1) hl
  refine ⟨v :: l, by simp [h1], h2, λ q hq => ?_⟩
  rcases List.mem_cons.1 hq with rfl | hq
  ·exact hv
  ·exact h3 q hq
theorem run_of_pr {P : Program} {α β : Type} {s : Sem α} {v : α} (h : pr P s = some v) (f : α -> Sem β) (w : World) : (s >>= f).run P w = (f v).run P w := by
 show (Sem.bind s f).run P w = _
 revert h
 induction s <;> intro h <;> simp only [pr, reduceCtorEq] at h
 case pure a => simp only [Option.some.injEq] at h; subst h; rfl
 case program k ih => simp only [Sem.bind, Sem.run]; exact ih _ h
theorem vcQ_spec {E : TE} {P : Program} (T : TOk P E) {G h : Heap} {ρ : Frm} {o : Oper} {K : Value -> WL -> Prop} (hh : vcQ E G h (ev ρ) o.op K) :
  ∃ v cs, K v cs /\ (∀ q ∈ cs, hcell (rd G h) q.1 = some q.2) /\ ∀ w, (∀ q ∈ cs, w.cell? q.1 = some q.2) -> (execOp (ev ρ) o).run P w = .ok (.value v) w := by
 unfold vcQ at hh
 split at hh
 ·rename_i t x ho
  unfold ldW at hh
  split at hh
  ·rename_i a hx
   have hex : ∀ w, (execOp (ev ρ) o).run P w = (do pure (Next.value (<- loadVar t a)) : Sem Next).run P w := λ w => by
    unfold execOp
    simp only [ho, hx, Instr.loadAt, Instr.sureAddr, pure_bind']
   split at hh
   ·rename_i d hd
    cases hag : isAggD d
    ·rw [hag] at hh
     obtain ⟨v, hv, hk⟩ := gen1_ex _ hh
     refine ⟨v, _, hk, λ q hq => by simp at hq; subst hq; exact hv, λ w hw => ?_⟩
     have hc := hw (a, v) (by simp)
     rw [hex]
     simp only [loadVar, bind_assoc']
     rw [run_of_pr (isAgg_spec T hd), hag]
     simp only [Bool.false_eq_true, if_false]
     show (Sem.bind (Sem.load .plain a .pure) _).run P w = _
     simp only [Sem.bind, Sem.run, hc]
     rfl
    ·rw [hag] at hh
     simp only [cond_true] at hh
     split at hh
     ·rename_i n hn
      cases hb : Nat.beq (leaves (E.ty t)).length n with
      | false => rw [hb] at hh; exact hh.elim
      | true =>
       rw [hb] at hh
       have hl := Nat.eq_of_beq_eq_true hb
       obtain ⟨l, h1, h2, h3⟩ := ldL_cells _ 0 hh
       refine ⟨_, _, h2, h3, λ w hw => ?_⟩
       rw [hex]
       simp only [loadVar, bind_assoc']
       rw [run_of_pr (isAgg_spec T hd), hag]
       simp only [if_true, bind_assoc']
       rw [run_of_pr (T.prSz hn), <- hl, <- h1]
       have := run_loadCells (P := P) l 0 #[] hw
       unfold loadCells
       simp only [Sem.run_bind, this, Result.andThen]
       simp [pure, Sem.run]
     ·exact hh.elim
   ·exact hh.elim
  ·exact hh.elim
 ·split at hh
  ·rename_i p hp
   obtain ⟨v, hv, hk⟩ := pureK_spec T (λ v => rfl) hp hh
   exact ⟨v, [], hk, λ q hq => (by cases hq), λ w _ => pr_run _ hv w⟩
  ·exact hh.elim
end Go.Sl
namespace Go.Sl
open Go
variable {D : List Deferred}
def SW (E : TE) (ol : List Oper) (W : List (Nat × WL)) (j : Nat) (w w' : World) : Prop :=
 match ol[j]? with
 | some o => bif quietB E o.op then w' = w else ∀ p ∈ W, ancB ol 5 p.1 j = false -> ∀ q ∈ p.2, w'.cell? q.1 = some q.2
 | none => True
theorem watK_spec {G h : Heap} {cs : WL} {K : Prop} (hh : watK G h cs K) : K /\ ∀ q ∈ cs, hcell (rd G h) q.1 = some q.2 := by
 induction cs with
 | nil => exact ⟨hh, λ q hq => by cases hq⟩
 | cons q cs ih =>
  obtain ⟨h1, h2⟩ := ih hh.2
  refine ⟨h1, λ p hp => ?_⟩
  rcases List.mem_cons.1 hp with rfl | hp
  ·exact hh.1
  ·exact h2 p hp
theorem watW_spec {ol : List Oper} {G h : Heap} {j : Nat} {W : List (Nat × WL)} {K : Prop} (hh : watW ol G h j W K) :
  K /\ ∀ p ∈ W, ancB ol 5 p.1 j = false -> ∀ q ∈ p.2, hcell (rd G h) q.1 = some q.2 := by
 induction W with
 | nil => exact ⟨hh, λ q hq => by cases hq⟩
 | cons p W ih =>
  obtain ⟨i, cs⟩ := p
  simp only [watW] at hh
  cases ha : ancB ol 5 i j with
  | true =>
   rw [ha] at hh
   obtain ⟨h1, h2⟩ := ih hh
   refine ⟨h1, λ p hp hn => ?_⟩
   rcases List.mem_cons.1 hp with rfl | hp
   ·simp only at hn; rw [ha] at hn; cases hn
   ·exact h2 p hp hn
  | false =>
   rw [ha] at hh
   obtain ⟨h0, hc⟩ := watK_spec hh
   obtain ⟨h1, h2⟩ := ih h0
   refine ⟨h1, λ p hp hn => ?_⟩
   rcases List.mem_cons.1 hp with rfl | hp
   ·exact hc
   ·exact h2 p hp hn
theorem findQ_spec {E : TE} {ol : List Oper} {rem : List Nat} {l : List Nat} {i : Nat} (h : findQ E ol rem l = some i) : i ∈ l /\ rdyB ol rem i = true /\ ∃ o, ol[i]? = some o /\ quietB E o.op = true := by
 induction l with
 | nil => cases h
 | cons j js ih =>
  simp only [findQ] at h
  split at h
  ·rename_i o ho
   cases hb : rdyB ol rem j && quietB E o.op with
   | true =>
    rw [hb] at h
    simp only [cond_true, Option.some.injEq] at h
    subst h
    simp only [Bool.and_eq_true] at hb
    exact ⟨List.mem_cons_self, hb.1, o, ho, hb.2⟩
   | false =>
    rw [hb] at h
    obtain ⟨h1, h2⟩ := ih h
    exact ⟨List.mem_cons_of_mem _ h1, h2⟩
  ·obtain ⟨h1, h2⟩ := ih h
   exact ⟨List.mem_cons_of_mem _ h1, h2⟩
theorem findQ_none {E : TE} {ol : List Oper} {rem : List Nat} {l : List Nat} (h : findQ E ol rem l = none) : ∀ j ∈ l, rdyB ol rem j = true -> ∀ o, ol[j]? = some o -> quietB E o.op = false := by
 induction l with
 | nil => intro j hj; cases hj
 | cons k ks ih =>
  intro j hj hr o ho
  simp only [findQ] at h
  split at h
  ·rename_i o' ho'
   cases hb : rdyB ol rem k && quietB E o'.op with
   | true => rw [hb] at h; cases h
   | false =>
    rw [hb] at h
    rcases List.mem_cons.1 hj with rfl | hj
    ·rw [ho] at ho'; cases ho'
     rw [hr] at hb; simpa using hb
    ·exact ih h j hj hr o ho
  ·rename_i hn
   rcases List.mem_cons.1 hj with rfl | hj
   ·rw [ho] at hn; cases hn
   ·exact ih h j hj hr o ho
theorem allN_spec {ol : List Oper} {f : Nat -> Oper -> Prop} {l : List Nat} (h : allN ol f l) : l ≠ [] /\ ∀ j ∈ l, ∃ o, ol[j]? = some o /\ f j o := by
 induction l with
 | nil => exact h.elim
 | cons j js ih =>
  refine ⟨by simp, ?_⟩
  have hd : ∀ {m : Nat}, (match ol[m]? with | some o => f m o | none => False) -> ∃ o, ol[m]? = some o /\ f m o := λ {m} hm => by
   cases ho : ol[m]? with
   | none => rw [ho] at hm; exact hm.elim
   | some o => rw [ho] at hm; exact ⟨o, rfl, hm⟩
  cases js with
  | nil =>
   intro k hk
   simp only [List.mem_cons, List.not_mem_nil, or_false] at hk
   subst hk
   exact hd h
  | cons k ks =>
   obtain ⟨h1, h2⟩ := h
   intro m hm
   rcases List.mem_cons.1 hm with rfl | hm
   ·exact hd h1
   ·exact (ih h2).2 m hm
theorem vcAny_spec {E : TE} {P : Program} (T : TOk P E) {G : Heap} {F : RF} {n : Nat} {ops : Array Oper} {gs : List Nat} {X : Frm -> Prop} {Q : Exit -> Frm -> Heap -> Prop} {Kp : PK} (hX : ∀ o ρ ρ', o ∈ ops -> (∀ t, o.dst ≠ some t -> ρ' t = ρ t) -> X ρ -> X ρ') (hns : noSel ops.toList = true) :
  ∀ (fuel : Nat) (rem : List Nat) (W : List (Nat × WL)) (ρ : Frm) (h : Heap) (listed : Array Bool) (a : Act) (w : World), rem.Nodup -> LInv ops listed rem -> Closed ops listed ->
   vcAny E P G n ops.toList gs (λ ρ h => Q .normal ρ h) Kp fuel rem W ρ h -> Ag D n a ρ -> Fr G w h F -> X ρ ->
   wpAnyS P ops (SW E ops.toList W) (QW D n G F X Q Kp) fuel listed a w := by
 intro fuel
 induction fuel with
 | zero =>
  intro rem W ρ h listed a w _ L _ hh g f hx
  cases rem with
  | nil =>
   refine ⟨?_, ρ, h, g, f, hx, hh⟩
   cases hx : Region.ready .any ops listed with
   | nil => rfl
   | cons j js =>
    have : j ∈ Region.ready .any ops listed := by rw [hx]; exact List.mem_cons_self
    cases (L.ready.1 this).1
  | cons r rs => exact hh.elim
 | succ fuel ih =>
  intro rem W ρ h listed a w hnd L hcl hh g f hx
  cases rem with
  | nil =>
   have hr : Region.ready .any ops listed = [] := by
    cases hx : Region.ready .any ops listed with
    | nil => rfl
    | cons j js =>
     have : j ∈ Region.ready .any ops listed := by rw [hx]; exact List.mem_cons_self
     cases (L.ready.1 this).1
   refine ⟨λ _ => ⟨ρ, h, g, f, hx, hh⟩, λ i hi => by rw [hr] at hi; cases hi⟩
  | cons r0 rs =>
   generalize hrem : r0 :: rs = rem at *
   simp only [vcAny] at hh
   have hh' : (match findQ E ops.toList rem rem with
     | some i => (match ops.toList[i]? with
      | some o => bif freeB ops.toList o i rem then
        guardK ops.toList n o ρ (vcQ E G h (ev ρ) o.op λ v cs => splitG (memB i gs) v λ v =>
         kput n o.dst v (λ ρ => vcAny E P G n ops.toList gs (λ ρ h => Q .normal ρ h) Kp fuel (rem.erase i) (addW i cs W) ρ h) ρ)
         λ ρ => vcAny E P G n ops.toList gs (λ ρ h => Q .normal ρ h) Kp fuel (rem.erase i) W ρ h
       else False
      | none => False)
     | none => allN ops.toList (λ j o => vcOne E P G n ops.toList gs j o (λ ρ h => watW ops.toList G h j W (vcAny E P G n ops.toList gs (λ ρ h => Q .normal ρ h) Kp fuel (rem.erase j) W ρ h)) Kp ρ h) (rem.filter (rdyB ops.toList rem))) := by
    subst hrem; exact hh
   clear hh
   split at hh'
   ·rename_i i hfind
    obtain ⟨him, hir, o, ho, hq⟩ := findQ_spec hfind
    rw [ho] at hh'
    simp only at hh'
    cases hfree : freeB ops.toList o i rem with
    | false => rw [hfree] at hh'; exact hh'.elim
    | true =>
     rw [hfree] at hh'
     simp only [cond_true] at hh'
     have ho' : ops[i]? = some o := by simpa using ho
     have hready : i ∈ Region.ready .any ops listed := L.ready.2 ⟨him, hir⟩
     have L' := L.erase hnd him
     have hcl' := hcl.step hready
     have hnd' := hnd.erase i
     have hfr : ∀ j oj, ops[j]? = some oj -> j ≠ i -> listed.getD j true = false -> (∀ e ∈ oj.after, Region.binds .any e = true -> e.on ≠ i) -> o.apart ops oj = true := λ j oj hj hne hun hno =>
      freeB_spec hfree hj ((L.mem j (Array.getElem?_eq_some_iff.1 hj).1).1 hun) hne hno
     have hQ : ∀ v c a w, QW D n G F X Q Kp (.panic c) (a.put o.dst v) w -> QW D n G F X Q Kp (.panic c) a w := λ v c a w hx => by
      obtain ⟨h1, h2⟩ := hx
      exact ⟨by rw [<- h1]; cases o.dst <;> rfl, h2⟩
     have hSi : ∀ w, SW E ops.toList W i w w := λ w => by
      unfold SW; rw [ho]; simp only [hq, cond_true]
     have main : ∀ (v : Value) (cs : WL) (ρ' : Frm), YieldsC P ops o v (λ w => ∀ q ∈ cs, w.cell? q.1 = some q.2) a -> (∀ q ∈ cs, w.cell? q.1 = some q.2) -> Ag D n (a.put o.dst v) ρ' -> X ρ' ->
       vcAny E P G n ops.toList gs (λ ρ h => Q .normal ρ h) Kp fuel (rem.erase i) (addW i cs W) ρ' h -> wpAnyS P ops (SW E ops.toList W) (QW D n G F X Q Kp) (fuel + 1) listed a w := λ v cs ρ' hy hC g' hx' hv => by
      have H := ih (rem.erase i) (addW i cs W) ρ' h (listed.setIfInBounds i true) (a.put o.dst v) w hnd' L' hcl' hv g' f hx'
      refine wpAnyS_first (S := SW E ops.toList (addW i cs W)) (C := λ w => ∀ q ∈ cs, w.cell? q.1 = some q.2) (a0 := a) ho' (noSel_spec hns) (hQ v) (Closed ops) (λ l j c hj => c.step hj) ?_ hSi hy fuel listed a w hcl hfr hready ⟨rfl, rfl⟩ hC ?_ H
      ·intro j l w1 w2 cl hj hun hC1 hS
       cases cs with
       | nil => intro q hq; cases hq
       | cons q0 cs =>
        unfold SW at hS
        obtain ⟨_, oj, hoj, hall⟩ := mem_ready.1 hj
        have hoj' : ops.toList[j]? = some oj := by simpa using hoj
        rw [hoj'] at hS
        simp only at hS
        cases hqj : quietB E oj.op with
        | true => rw [hqj] at hS; simp only [cond_true] at hS; subst hS; exact hC1
        | false =>
         rw [hqj] at hS
         simp only [cond_false] at hS
         refine hS (i, q0 :: cs) (by simp [addW]) ?_
         cases hanc : ancB ops.toList 5 i j with
         | false => rfl
         | true =>
          have := ancB_listed cl 5 i j hanc λ o' ho2 e he hb => by rw [hoj] at ho2; cases ho2; exact hall e he hb
          rcases Nat.lt_or_ge i l.size with h' | h'
          ·simp [h'] at this hun; rw [hun] at this; cases this
          ·simp [Array.getElem?_eq_none h'] at this
      ·intro j w1 w2 hS
       unfold SW at hS ⊢
       split
       ·rename_i oj hoj
        rw [hoj] at hS
        simp only at hS
        cases hqj : quietB E oj.op with
        | true => rw [hqj] at hS; exact hS
        | false =>
         rw [hqj] at hS
         simp only [cond_false] at hS ⊢
         refine λ p hp => hS p ?_
         unfold addW; split
         ·exact hp
         ·exact List.mem_cons_of_mem _ hp
       ·trivial
     rcases guardK_spec g hh' with ⟨hw, hd⟩ | ⟨hw, hs⟩
     ·obtain ⟨v, cs, hK, hcs, hrun⟩ := vcQ_spec (P := P) T hd
      obtain ⟨ρ', g', hK, hd⟩ := kput_spec (splitG_spec hK) g
      refine main v cs ρ' (.inl ⟨hw, λ w hw' => ?_⟩) (λ q hq => f.cell (hcs q hq)) g' (hX o ρ ρ' (Array.mem_of_getElem? ho') hd hx) hK
      rw [g.eval]; exact hrun w hw'
     ·obtain ⟨ρ', g', hK, hd⟩ := kput_spec hs g
      exact main undef [] ρ' (.inr ⟨hw, rfl⟩) (λ q hq => by cases hq) g' (hX o ρ ρ' (Array.mem_of_getElem? ho') hd hx) hK
   ·rename_i hfind
    obtain ⟨hne, hall⟩ := allN_spec hh'
    have hmem : ∀ i, i ∈ Region.ready .any ops listed ↔ i ∈ rem.filter (rdyB ops.toList rem) := λ i => by
     rw [L.ready, List.mem_filter]
    refine ⟨λ hr => ?_, λ i hi => ?_⟩
    ·exfalso
     apply hne
     cases hx : rem.filter (rdyB ops.toList rem) with
     | nil => rfl
     | cons j js =>
      have := (hmem j).2 (by rw [hx]; exact List.mem_cons_self)
      rw [hr] at this; cases this
    ·obtain ⟨o, ho, hone⟩ := hall i ((hmem i).1 hi)
     have hrm := List.mem_filter.1 ((hmem i).1 hi)
     have hnq := findQ_none hfind i hrm.1 hrm.2 o ho
     refine vcOne_spec T (by simpa using ho) hone g f λ ρ' h' a' w' hK hd g' f' => ?_
     obtain ⟨hv, hwat⟩ := watW_spec hK
     refine ⟨?_, ih (rem.erase i) W ρ' h' _ a' w' (hnd.erase i) (L.erase hnd hrm.1) (hcl.step hi) hv g' f' (hX o ρ ρ' (Array.mem_of_getElem? (by simpa using ho)) hd hx)⟩
     unfold SW
     rw [ho]
     simp only [hnq, cond_false]
     exact λ p hp ha q hq => f'.cell (hwat p hp ha q hq)
end Go.Sl
namespace Go.Sl
open Go
variable {D : List Deferred}
structure LAnn where
 live : List (Nat × Ty)
 junk : List Nat
def setL : List (Nat × Ty) -> List Value -> Frm -> Frm
 | (t, _) :: ls, v :: vs, ρ => setL ls vs (fput ρ t v)
 | _, _, ρ => ρ
def setJ (junk : List Nat) (jv : Nat -> Value) (ρ : Frm) : Frm := λ t => bif memB t junk then jv t else ρ t
def getL : List (Nat × Ty) -> Frm -> List Value
 | [], _ => []
 | (t, _) :: ls, ρ => ρ t :: getL ls ρ
def tysL : List (Nat × Ty) -> List Ty
 | [] => []
 | (_, t) :: ls => t :: tysL ls
def slotsL : List (Nat × Ty) -> List Nat
 | [] => []
 | (t, _) :: ls => t :: slotsL ls
def LoopS (init : List Value) (h0 : Heap) (body : (Nat -> Value) -> List Value -> (List Value -> Heap -> Prop) -> Heap -> Prop) : Prop :=
 ∃ (I : List Value -> Heap -> Prop) (μ : List Value -> Heap -> Nat), I init h0 /\ ∀ jv vs h, I vs h -> body jv vs (λ vs' h' => I vs' h' /\ μ vs' h' < μ vs h) h
def key : Code -> Nat
 | .region id _ _ => id
 | .seq a _ => key a
 | .block _ b => key b
 | .cond _ a _ => key a
 | .loop b => key b + 100000
 | .scope b => key b
 | _ => 0
def thenQ (K : Frm -> Heap -> Prop) (Q : Exit -> Frm -> Heap -> Prop) : Exit -> Frm -> Heap -> Prop
 | .normal, ρ, h => K ρ h
 | e, ρ, h => Q e ρ h
def blockQ (id : Nat) (Q : Exit -> Frm -> Heap -> Prop) : Exit -> Frm -> Heap -> Prop
 | .exit id', ρ, h => bif Nat.beq id' id then Q .normal ρ h else Q (.exit id') ρ h
 | e, ρ, h => Q e ρ h
def scopeQ (Q : Exit -> Frm -> Heap -> Prop) : Exit -> Frm -> Heap -> Prop
 | .goto _, _, _ => False
 | e, ρ, h => Q e ρ h
def vcC (E : TE) (P : Program) (G : Heap) (n : Nat) (ann : Nat -> LAnn) (Kp : PK) : Code -> (Exit -> Frm -> Heap -> Prop) -> Frm -> Heap -> Prop
 | .skip, Q, ρ, h => Q .normal ρ h
 | .region _ ops d, Q, ρ, h => bif d then (bif noSel ops.toList then vcAny E P G n ops.toList (guardsOf ops.toList) (λ ρ h => Q .normal ρ h) Kp ops.toList.length (List.range' 0 ops.toList.length) [] ρ h else False)
   else vcRun E P G n ops.toList (guardsOf ops.toList) ops.toList 0 (λ ρ h => Q .normal ρ h) Kp ρ h
 | .seq a b, Q, ρ, h => vcC E P G n ann Kp a (thenQ (λ ρ h => vcC E P G n ann Kp b Q ρ h) Q) ρ h
 | .cond c a b, Q, ρ, h => (match ev ρ c with
  | .bool t => If t (vcC E P G n ann Kp a Q ρ h) (vcC E P G n ann Kp b Q ρ h)
  | _ => False)
 | .block id b, Q, ρ, h => vcC E P G n ann Kp b (blockQ id Q) ρ h
 | .loop b, Q, ρ, h => LoopS (getL (ann (key b)).live ρ) h λ jv vs Kn h => genL (tysL (ann (key b)).live) λ l => vs = l /\
   vcC E P G n ann Kp b (thenQ (λ ρ' h' => Kn (getL (ann (key b)).live ρ') h') Q) (setL (ann (key b)).live l (setJ (ann (key b)).junk jv ρ)) h
 | .scope b, Q, ρ, h => vcC E P G n ann Kp b (scopeQ Q) ρ h
 | .label _, Q, ρ, h => Q .normal ρ h
 | .exit id, Q, ρ, h => Q (.exit id) ρ h
 | .ret, Q, ρ, h => Q .ret ρ h
 | _, _, _, _ => False
def wOps (W : List Nat) : List Oper -> Bool
 | [] => true
 | o :: os => (match o.dst with | some d => memB d W | none => true) && wOps W os
def wIn (W : List Nat) : Code -> Bool
 | .region _ ops _ => wOps W ops.toList
 | .seq a b => wIn W a && wIn W b
 | .cond _ a b => wIn W a && wIn W b
 | .block _ b => wIn W b
 | .loop b => wIn W b
 | .scope b => wIn W b
 | _ => true
theorem wOps_spec {W : List Nat} {l : List Oper} (h : wOps W l = true) {o : Oper} (ho : o ∈ l) {d : Nat} (hd : o.dst = some d) : memB d W = true := by
 induction l with
 | nil => cases ho
 | cons x xs ih =>
  simp only [wOps, Bool.and_eq_true] at h
  rcases List.mem_cons.1 ho with rfl | ho
  ·have := h.1; simpa only [hd] using this
  ·exact ih h.2 ho
def annOk (ann : Nat -> LAnn) (n : Nat) : Code -> Bool
 | .seq a b => annOk ann n a && annOk ann n b
 | .cond _ a b => annOk ann n a && annOk ann n b
 | .block _ b => annOk ann n b
 | .scope b => annOk ann n b
 | .loop b => wIn (slotsL (ann (key b)).live ++ (ann (key b)).junk) b && annOk ann n b && (slotsL (ann (key b)).live).all (λ t => Nat.blt t n) && (ann (key b)).junk.all (λ t => Nat.blt t n)
 | _ => true
theorem wp_loop_rel {P : Program} {Q : Exit -> Act -> World -> Prop} {c : Code} (R : Nat -> Act -> World -> Prop)
  (round : ∀ n a w, R n a w -> c.wp P (Exit.then (λ a' w' => ∃ m, m < n /\ R m a' w') Q) a w) : ∀ n a w, R n a w -> (Code.loop c).wp P Q a w := by
 intro n a w hR b k cs
 have key : ∀ n a w, R n a w ->
   ∃ e a' w', Q e a' w' /\ Arrives P (lone (b.at a (.code c :: .inLoop c :: k)) cs w) b k cs e a' w' := by
  intro n
  induction n using Nat.strongRecOn with
  | _ n ih =>
   intro a w hI
   obtain ⟨e, a₁, w₁, hq, harr⟩ := round n a w hI b (.inLoop c :: k) cs
   cases e with
   | normal =>
    obtain ⟨m, hlt, hI₁⟩ := hq
    obtain ⟨e₂, a₂, w₂, hq₂, harr₂⟩ := ih m hlt a₁ w₁ hI₁
    exact ⟨e₂, a₂, w₂, hq₂, .of_steps (Steps.trans harr (.one step_inLoop)) harr₂⟩
   | exit id => exact ⟨_, a₁, w₁, hq, .pass (x := .inLoop c) rfl (λ _ _ => .inl (by simp)) harr⟩
   | goto l => exact ⟨_, a₁, w₁, hq, .pass (x := .inLoop c) rfl (λ _ _ => .inl (by simp)) harr⟩
   | ret => exact ⟨_, a₁, w₁, hq, .pass (x := .inLoop c) rfl (λ _ _ => .inl (by simp)) harr⟩
   | panic ch => exact ⟨_, a₁, w₁, hq, .pass (x := .inLoop c) rfl (λ _ _ => .inl (by simp)) harr⟩
   | outgrown => exact ⟨_, a₁, w₁, hq, .pass (x := .inLoop c) rfl (λ _ _ => .inl (by simp)) harr⟩
 obtain ⟨e, a', w', hq, harr⟩ := key _ a w hR
 exact ⟨e, a', w', hq, .of_steps (.one step_loop) harr⟩
theorem setL_get (ls : List (Nat × Ty)) (ρ : Frm) : ∀ (σ : Frm), (∀ t, memB t (slotsL ls) = false -> σ t = ρ t) -> setL ls (getL ls ρ) σ = ρ := by
 induction ls with
 | nil => intro σ h; funext t; exact h t rfl
 | cons x ls ih =>
  obtain ⟨t, ty⟩ := x
  intro σ h
  refine ih (fput σ t (ρ t)) λ u hu => ?_
  simp only [fput]
  cases hb : Nat.beq u t with
  | true => rw [Nat.eq_of_beq_eq_true hb]; rfl
  | false =>
   simp only [cond_false]
   exact h u (by simp only [slotsL, memB, hb, cond_false]; exact hu)
theorem memB_append {x : Nat} {l m : List Nat} : memB x (l ++ m) = (memB x l || memB x m) := by
 induction l with
 | nil => simp [memB]
 | cons y ys ih =>
  simp only [List.cons_append, memB]
  cases Nat.beq x y <;> simp [ih]
theorem vcC_spec {E : TE} {P : Program} (T : TOk P E) {G : Heap} {F : RF} {n : Nat} {ann : Nat -> LAnn} {Kp : PK} (hm : P.follows .mixedOrders = true) (c : Code) :
  ∀ {X : Frm -> Prop} {W : List Nat} {Q : Exit -> Frm -> Heap -> Prop} {ρ : Frm} {h : Heap} {a : Act} {w : World},
  (∀ ρ ρ', (∀ t, memB t W = false -> ρ' t = ρ t) -> X ρ -> X ρ') -> wIn W c = true -> annOk ann n c = true ->
  vcC E P G n ann Kp c Q ρ h -> Ag D n a ρ -> Fr G w h F -> X ρ -> c.wp P (QW D n G F X Q Kp) a w := by
 induction c with
 | skip => intro X W Q ρ h a w _ _ _ hh g f hx; exact wp_skip ⟨ρ, h, g, f, hx, hh⟩
 | region id ops d =>
  intro X W Q ρ h a w hX hW _ hh g f hx
  have hX' : ∀ o ρ ρ', o ∈ ops -> (∀ t, o.dst ≠ some t -> ρ' t = ρ t) -> X ρ -> X ρ' := λ o ρ ρ' ho hd hx => hX ρ ρ' (λ t ht => hd t λ e => by
   have := wOps_spec hW (by simpa using ho) e
   rw [ht] at this; cases this) hx
  cases d with
  | false =>
   simp only [vcC, cond_false] at hh
   refine wp_region ?_
   rw [List.range_eq_range', <- Array.length_toList]
   exact vcRun_spec T hX' ops.toList 0 (by simp) hh g f hx
  | true =>
   simp only [vcC, cond_true] at hh
   cases hs : noSel ops.toList with
   | false => rw [hs] at hh; exact hh.elim
   | true =>
    rw [hs] at hh
    simp only [cond_true] at hh
    refine wp_region_any hm (wpAnyS_any _ _ _ _ (vcAny_spec T hX' hs ops.size (List.range' 0 ops.size) [] ρ h _ a _ (List.nodup_range') ?_ ?_ (by simpa using hh) g (f.to rfl) hx))
    ·exact ⟨by simp, λ j hj => by simp [hj, List.mem_range'_1], λ j hj => by simpa [List.mem_range'_1] using hj⟩
    ·intro k o ho hk
     have : k < ops.size := (Array.getElem?_eq_some_iff.1 ho).1
     simp [this] at hk
 | seq x y ihx ihy =>
  intro X W Q ρ h a w hX hW hA hh g f hx
  simp only [wIn, Bool.and_eq_true] at hW
  simp only [annOk, Bool.and_eq_true] at hA
  refine wp_seq (wp_mono (ihx hX hW.1 hA.1 hh g f hx) λ e a' w' hq => ?_)
  cases e with
  | normal => obtain ⟨ρ', h', g', f', hx', hK⟩ := hq; exact ihy hX hW.2 hA.2 hK g' f' hx'
  | exit id => obtain ⟨ρ', h', g', f', hx', hK⟩ := hq; exact ⟨ρ', h', g', f', hx', hK⟩
  | goto id => obtain ⟨ρ', h', g', f', hx', hK⟩ := hq; exact ⟨ρ', h', g', f', hx', hK⟩
  | ret => obtain ⟨ρ', h', g', f', hx', hK⟩ := hq; exact ⟨ρ', h', g', f', hx', hK⟩
  | panic ch => exact hq
  | outgrown => exact hq.elim
 | cond c x y ihx ihy =>
  intro X W Q ρ h a w hX hW hA hh g f hx
  simp only [wIn, Bool.and_eq_true] at hW
  simp only [annOk, Bool.and_eq_true] at hA
  simp only [vcC] at hh
  split at hh
  ·rename_i t ht
   have ht' : a.eval c = .bool t := by rw [g.eval]; exact ht
   cases t with
   | true => exact wp_cond_true ht' (ihx hX hW.1 hA.1 hh g f hx)
   | false => exact wp_cond_false ht' (ihy hX hW.2 hA.2 hh g f hx)
  ·exact hh.elim
 | block id b ih =>
  intro X W Q ρ h a w hX hW hA hh g f hx
  refine wp_block (wp_mono (ih hX hW hA hh g f hx) λ e a' w' hq => ?_)
  cases e with
  | normal => obtain ⟨ρ', h', g', f', hx', hK⟩ := hq; exact ⟨ρ', h', g', f', hx', hK⟩
  | exit id' =>
   obtain ⟨ρ', h', g', f', hx', hK⟩ := hq
   simp only [blockQ] at hK
   simp only [Exit.inBlock]
   cases hb : Nat.beq id' id with
   | true =>
    rw [hb] at hK
    rw [if_pos (Nat.eq_of_beq_eq_true hb)]
    exact ⟨ρ', h', g', f', hx', hK⟩
   | false =>
    rw [hb] at hK
    have : id' ≠ id := λ e => by subst e; simp at hb
    rw [if_neg this]
    exact ⟨ρ', h', g', f', hx', hK⟩
  | goto id => obtain ⟨ρ', h', g', f', hx', hK⟩ := hq; exact ⟨ρ', h', g', f', hx', hK⟩
  | ret => obtain ⟨ρ', h', g', f', hx', hK⟩ := hq; exact ⟨ρ', h', g', f', hx', hK⟩
  | panic ch => exact hq
  | outgrown => exact hq.elim
 | loop b ih =>
  intro X W Q ρ h a w hX hW hA hh g f hx
  simp only [annOk, Bool.and_eq_true] at hA
  obtain ⟨⟨⟨hA1, hA2⟩, hA3⟩, hA4⟩ := hA
  obtain ⟨I, μ, h0, hround⟩ := hh
  generalize hL : ann (key b) = L at *
  let S := slotsL L.live ++ L.junk
  let R : Nat -> Act -> World -> Prop := λ m a w => ∃ ρ' h', Ag D n a ρ' /\ Fr G w h' F /\ X ρ' /\ I (getL L.live ρ') h' /\ μ (getL L.live ρ') h' = m /\ ∀ t, memB t S = false -> ρ' t = ρ t
  refine wp_loop_rel R ?_ (μ (getL L.live ρ) h) a w ⟨ρ, h, g, f, hx, h0, rfl, λ _ _ => rfl⟩
  rintro m a1 w1 ⟨ρ1, h1, g1, f1, hx1, hI1, hm1, hout⟩
  have hb := hround ρ1 (getL L.live ρ1) h1 hI1
  obtain ⟨l, hl, hb⟩ := genL_ex _ hb
  have hρ : setL L.live l (setJ L.junk ρ1 ρ) = ρ1 := by
   rw [<- hl]
   refine setL_get L.live ρ1 _ λ t ht => ?_
   simp only [setJ]
   cases hj : memB t L.junk with
   | true => rfl
   | false =>
    simp only [cond_false]
    refine (hout t ?_).symm
    show memB t (slotsL L.live ++ L.junk) = false
    rw [memB_append, ht, hj]; rfl
  rw [hρ] at hb
  have := ih (X := λ ρ' => X ρ' /\ ∀ t, memB t S = false -> ρ' t = ρ t) (W := S.filter (λ t => memB t W)) (λ ρa ρb hab hxa => ⟨hX ρa ρb (λ t ht => hab t (by
   cases hs : memB t (S.filter λ t => memB t W) with
   | false => rfl
   | true => rw [memB_iff, List.mem_filter] at hs; rw [hs.2] at ht; cases ht)) hxa.1, λ t ht => (hab t (by
   cases hs : memB t (S.filter λ t => memB t W) with
   | false => rfl
   | true => rw [memB_iff, List.mem_filter] at hs; have := memB_iff.2 hs.1; rw [ht] at this; cases this)).trans (hxa.2 t ht)⟩) ?_ hA2 hb g1 f1 ⟨hx1, hout⟩
  ·refine wp_mono this λ e a' w' hq => ?_
   cases e with
   | normal =>
    obtain ⟨ρ2, h2, g2, f2, hx2, hI2, hlt⟩ := hq
    exact ⟨_, by rw [<- hm1]; exact hlt, ρ2, h2, g2, f2, hx2.1, hI2, rfl, hx2.2⟩
   | exit id => obtain ⟨ρ', h', g', f', hx', hK⟩ := hq; exact ⟨ρ', h', g', f', hx'.1, hK⟩
   | goto id => obtain ⟨ρ', h', g', f', hx', hK⟩ := hq; exact ⟨ρ', h', g', f', hx'.1, hK⟩
   | ret => obtain ⟨ρ', h', g', f', hx', hK⟩ := hq; exact ⟨ρ', h', g', f', hx'.1, hK⟩
   | panic ch => exact hq
   | outgrown => exact hq.elim
  ·have both : ∀ (c : Code), wIn S c = true -> wIn W c = true -> wIn (S.filter λ t => memB t W) c = true := by
    intro c
    have hops : ∀ (l : List Oper), wOps S l = true -> wOps W l = true -> wOps (S.filter λ t => memB t W) l = true := by
     intro l
     induction l with
     | nil => intros; rfl
     | cons o os iho =>
      intro h1 h2
      simp only [wOps, Bool.and_eq_true] at h1 h2 ⊢
      refine ⟨?_, iho h1.2 h2.2⟩
      cases hd : o.dst with
      | none => rfl
      | some d =>
       have e1 := h1.1; have e2 := h2.1
       simp only [hd] at e1 e2 ⊢
       rw [memB_iff, List.mem_filter]
       exact ⟨memB_iff.1 e1, e2⟩
    induction c with
    | region id ops d => exact hops _
    | seq x y ihx ihy => intro h1 h2; simp only [wIn, Bool.and_eq_true] at h1 h2 ⊢; exact ⟨ihx h1.1 h2.1, ihy h1.2 h2.2⟩
    | cond c x y ihx ihy => intro h1 h2; simp only [wIn, Bool.and_eq_true] at h1 h2 ⊢; exact ⟨ihx h1.1 h2.1, ihy h1.2 h2.2⟩
    | block id b ih => intro h1 h2; exact ih h1 h2
    | loop b ih => intro h1 h2; exact ih h1 h2
    | scope b ih => intro h1 h2; exact ih h1 h2
    | _ => intros; rfl
   exact both b hA1 hW
 | label l => intro X W Q ρ h a w _ _ _ hh g f hx; exact wp_label ⟨ρ, h, g, f, hx, hh⟩
 | scope b ih =>
  intro X W Q ρ h a w hX hW hA hh g f hx
  refine wp_scope_straight (wp_mono (ih hX hW hA hh g f hx) λ e a' w' hq => ?_)
  cases e with
  | goto id => obtain ⟨ρ', h', g', f', hx', hK⟩ := hq; exact hK.elim
  | panic ch => exact hq
  | outgrown => exact hq.elim
  | normal => exact hq
  | exit id => exact hq
  | ret => exact hq
 | exit id => intro X W Q ρ h a w _ _ _ hh g f hx; exact wp_exit ⟨ρ, h, g, f, hx, hh⟩
 | ret => intro X W Q ρ h a w _ _ _ hh g f hx; exact wp_ret ⟨ρ, h, g, f, hx, hh⟩
 | _ => intro X W Q ρ h a w _ _ _ hh; exact hh.elim
end Go.Sl
namespace Go.Sl
open Go
variable {D : List Deferred}
theorem ldK_run {P : Program} {E : TE} (T : TOk P E) {G h : Heap} {F : RF} {t : Nat} {x : Value} {K : Value -> Prop} {w : World} (hh : ldK E G t x K h) (f : Fr G w h F) :
  ∃ v a, x = .pointer (some a) /\ K v /\ (loadVar t a).run P w = .ok v w := by
 unfold ldK at hh
 split at hh
 ·rename_i a
  split at hh
  ·rename_i d hd
   cases hag : isAggD d
   ·rw [hag] at hh
    obtain ⟨v, hv, hk⟩ := gen1_ex _ hh
    refine ⟨v, a, rfl, hk, ?_⟩
    unfold loadVar
    rw [run_of_pr (isAgg_spec T hd), hag]
    simp only [Bool.false_eq_true, if_false, load, Sem.run, f.cell hv]
   ·rw [hag] at hh
    simp only [cond_true] at hh
    split at hh
    ·rename_i n hn
     cases hb : Nat.beq (leaves (E.ty t)).length n with
     | false => rw [hb] at hh; exact hh.elim
     | true =>
      rw [hb] at hh
      have hl := Nat.eq_of_beq_eq_true hb
      obtain ⟨l, h1, h2, h3⟩ := ldL_cells _ 0 hh
      refine ⟨_, a, rfl, h2, ?_⟩
      unfold loadVar
      rw [run_of_pr (isAgg_spec T hd), hag]
      simp only [if_true]
      rw [run_of_pr (T.prSz hn), <- hl, <- h1]
      have := run_loadCells (P := P) l 0 #[] (λ q hq => f.cell (h3 q hq))
      unfold loadCells
      simp only [Sem.run_bind, this, Result.andThen]
      simp [pure, Sem.run]
    ·exact hh.elim
  ·exact hh.elim
 ·exact hh.elim
def resL (E : TE) (G : Heap) (ρ : Frm) (h : Heap) : List ResultVar -> (List Value -> Prop) -> Prop
 | [], K => K []
 | .tmp t :: rs, K => resL E G ρ h rs λ l => K (ρ t :: l)
 | .cell a t :: rs, K => ldK E G t (ρ a) (λ v => resL E G ρ h rs λ l => K (v :: l)) h
def tupV : List Value -> Value
 | [v] => v
 | l => .tuple l.toArray
def retQ (E : TE) (G : Heap) (rs : List ResultVar) (K : Value -> Heap -> Prop) : Exit -> Frm -> Heap -> Prop
 | .normal, ρ, h => resL E G ρ h rs λ l => K (tupV l) h
 | .ret, ρ, h => resL E G ρ h rs λ l => K (tupV l) h
 | _, _, _ => False
theorem resL_run {P : Program} {E : TE} (T : TOk P E) {G h : Heap} {F : RF} {w : World} {a : Act} {n : Nat} {ρ : Frm} (g : Ag D n a ρ) (f : Fr G w h F) (rs : List ResultVar) :
  ∀ {K : List Value -> Prop}, resL E G ρ h rs K -> ∃ l, K l /\ l.length = rs.length /\ (rs.mapM λ r => (match r with
   | .tmp t => pure (a.tmps.getD t undef)
   | .cell x t => do loadVar t (<- asAddr (a.tmps.getD x undef)) : Sem Value)).run P w = .ok l w := by
 induction rs with
 | nil => intro K hh; exact ⟨[], hh, rfl, rfl⟩
 | cons r rs ih =>
  intro K hh
  cases r with
  | tmp t =>
   obtain ⟨l, h1, h2, h3⟩ := ih hh
   refine ⟨_, h1, by simp [h2], ?_⟩
   rw [List.mapM_cons]
   generalize (List.mapM _ rs : Sem (List Value)) = s at h3 ⊢
   simp only [Sem.run_bind, h3, pure, Sem.run, Result.andThen, g.val]
  | cell x t =>
   obtain ⟨v, ad, hx, hk, hr⟩ := ldK_run T hh f
   obtain ⟨l, h1, h2, h3⟩ := ih hk
   refine ⟨_, h1, by simp [h2], ?_⟩
   rw [List.mapM_cons]
   generalize (List.mapM _ rs : Sem (List Value)) = s at h3 ⊢
   have : (asAddr (a.tmps.getD x undef)) = (pure ad : Sem Addr) := by rw [g.val, hx]; rfl
   simp only [this, pure_bind', Sem.run_bind, hr, h3, Result.andThen, pure, Sem.run]
theorem results_run {P : Program} {E : TE} (T : TOk P E) {G h : Heap} {F : RF} {w : World} {a : Act} {n : Nat} {ρ : Frm} {fn : Func} {K : Value -> Heap -> Prop} (g : Ag D n a ρ) (f : Fr G w h F)
  (hh : resL E G ρ h fn.results.toList λ l => K (tupV l) h) : ∃ v, (results fn a.tmps).run P w = .ok v w /\ K v h := by
 obtain ⟨l, h1, h2, h3⟩ := resL_run (P := P) T g f _ hh
 refine ⟨tupV l, ?_, h1⟩
 unfold results
 have h4 : (fn.results.mapM λ r => (match r with
   | .tmp t => pure (a.tmps.getD t undef)
   | .cell x t => do loadVar t (<- asAddr (a.tmps.getD x undef)) : Sem Value)).run P w = .ok l.toArray w := by
  rw [Array.mapM_eq_mapM_toList]
  show (Sem.bind _ _).run P w = _
  have : ∀ (s : Sem (List Value)), s.run P w = .ok l w -> (Sem.bind s λ x => Sem.pure x.toArray).run P w = .ok l.toArray w := λ s hs => by
   have := Sem.run_bind (P := P) (w := w) s (λ x => (Sem.pure x.toArray : Sem (Array Value)))
   show (s >>= λ x => (Sem.pure x.toArray : Sem (Array Value))).run P w = _
   rw [this, hs]; rfl
  exact this _ h3
 show (Sem.bind _ _).run P w = _
 have h5 := Sem.run_bind (P := P) (w := w) (fn.results.mapM λ r => (match r with
   | .tmp t => pure (a.tmps.getD t undef)
   | .cell x t => do loadVar t (<- asAddr (a.tmps.getD x undef)) : Sem Value)) (λ vs => (pure (if h : vs.size = 1 then vs[0] else .tuple vs) : Sem Value))
 rw [h4] at h5
 refine Eq.trans h5 ?_
 simp only [Result.andThen, pure, Sem.run]
 congr 1
 match l with
 | [] => rfl
 | [v] => rfl
 | v :: u :: l => simp [tupV]
def frmA : List Value -> Nat -> Frm
 | [], _ => λ _ => undef
 | v :: vs, i => fput (frmA vs (i + 1)) i v
theorem frmA_get (l : List Value) : ∀ (i t : Nat), frmA l i t = if i <= t then l.getD (t - i) undef else undef := by
 induction l with
 | nil => intro i t; simp [frmA]
 | cons v vs ih =>
  intro i t
  simp only [frmA, fput]
  cases hb : Nat.beq t i with
  | true =>
   have := Nat.eq_of_beq_eq_true hb
   subst this
   simp
  | false =>
   have hne : t ≠ i := λ e => by subst e; simp at hb
   simp only [cond_false, ih]
   by_cases h : i <= t
   ·have h1 : i + 1 <= t := by omega
    rw [if_pos h1, if_pos h]
    have : t - i = (t - (i + 1)) + 1 := by omega
    rw [this]; rfl
   ·rw [if_neg (by omega), if_neg h]
theorem callSl_of {E : TE} {P : Program} (T : TOk P E) (hm : P.follows .mixedOrders = true) {G : Heap} {f : FuncId} {fn : Func} {c : Code} {args : Array Value} {n : Nat} {ann : Nat -> LAnn} {W : List Nat}
  {K : Value -> Heap -> Prop} {Kp : PK} {h : Heap} (hf : P.funcs[f]? = some fn) (hb : fn.body = some c) (hn : fn.ntmps = n) (hsz : Nat.ble args.toList.length n = true) (hW : wIn W c = true) (hA : annOk ann n c = true)
  (hh : vcC E P G n ann Kp c (retQ E G fn.results.toList K) (frmA args.toList 0) h) : CallSl P G f args K Kp h := by
 intro w F fr
 have hsz' : args.size <= n := by simpa using hsz
 refine calls_of_wp hf hb ?_
 have hag : Ag [] n { tmps := args ++ Array.replicate (fn.ntmps - args.size) undef, defers := [] } (frmA args.toList 0) := by
  refine ⟨by simp [hn]; omega, λ t => ?_, rfl⟩
  rw [frmA_get]
  simp only [Nat.zero_le, if_true, Nat.sub_zero, Array.getD_eq_getD_getElem?, List.getD_eq_getElem?_getD, Array.getElem?_append, Array.getElem?_toList]
  split
  ·rfl
  ·rename_i hge
   have h1 : args[t]? = none := Array.getElem?_eq_none (by omega)
   rw [h1]
   cases hr : (Array.replicate (fn.ntmps - args.size) undef)[t - args.size]? with
   | none => rfl
   | some v =>
    have := Array.getElem?_replicate (n := fn.ntmps - args.size) (i := t - args.size) (v := undef)
    rw [hr] at this
    split at this
    ·cases this; rfl
    ·cases this
 refine wp_mono (vcC_spec T hm c (X := λ _ => True) (W := W) (λ _ _ _ _ => trivial) hW hA hh hag fr trivial) λ e a' w' hq => ?_
 have done : (∃ ρ' h', Ag [] n a' ρ' /\ Fr G w' h' F /\ True /\ resL E G ρ' h' fn.results.toList λ l => K (tupV l) h') -> a'.defers = [] /\ ∃ v, (results fn a'.tmps).run P w' = .ok v w' /\ ∃ h', K v h' /\ Fr G w' h' F := by
  rintro ⟨ρ', h', g', f', _, hK⟩
  obtain ⟨v, hv, hk⟩ := results_run (P := P) T g' f' hK
  exact ⟨g'.defers, v, hv, h', hk, f'⟩
 cases e with
 | normal => exact done hq
 | ret => exact done hq
 | panic ch => obtain ⟨h1, h', f', hk⟩ := hq; exact ⟨h1, h', hk, f'⟩
 | outgrown => exact hq.elim
 | exit id => obtain ⟨_, _, _, _, _, hk⟩ := hq; exact hk.elim
 | goto l => obtain ⟨_, _, _, _, _, hk⟩ := hq; exact hk.elim
theorem callF_of {P : Program} {G : Heap} {f : FuncId} {fn : Func} {args : Array Value} {K : Value -> Heap -> Prop} {Kp : PK} {h : Heap} (hf : P.funcs[f]? = some fn) (hb : fn.body.isNone = false)
  (hn : (fn.name == "runtime.NumGoroutine") = false) (hh : CallSl P G f args K Kp h) : CallF P G f args K Kp h := by
 refine ⟨?_⟩
 unfold slN callFunc
 refine sl_bindPr (v := P) rfl ?_
 simp only [hf, hn, hb, Bool.false_eq_true, if_false]
 exact hh
end Go.Sl
namespace Go.Sl
open Go
structure TRow where
 t : Nat
 d : TypeDesc
 sz : Nat
 zv : Option Value
 ty : Ty
 feq : Option (List Nat)
def findR : List TRow -> Nat -> Option TRow
 | [], _ => none
 | r :: rs, t => bif Nat.beq r.t t then some r else findR rs t
def mkE (l : List TRow) (ov : Bool) (ent : Ty) : TE where
 ent := ent
 ty t := match findR l t with | some r => r.ty | none => .any
 feq t := match findR l t with | some r => r.feq | none => none
 ud t := match findR l t with | some r => some r.d | none => none
 sz t := match findR l t with | some r => some r.sz | none => none
 zv t := match findR l t with | some r => r.zv | none => none
 ov := ov
structure RowOk (P : Program) (r : TRow) : Prop where
 ud : P.underlying r.t = some r.d
 info : ∃ i, P.info? r.t = some i /\ i.size = r.sz /\ (∀ v, r.zv = some v -> i.zero = some v)
 feq : ∀ ks, r.feq = some ks -> ∃ fs : Array Field, P.underlying r.t = some (.struct fs) /\ P.stoodInHeld r.t = false /\ P.eqGuardType P.depth r.t = false /\
  fs.size = ks.length /\ ∀ (i : Nat) (f : Field), fs[i]? = some f -> f.name ≠ "_" /\ f.offset = i /\ ∃ c, ks[i]? = some c /\ P.underlying f.type = leafD c
def AllOk (P : Program) : List TRow -> Prop
 | [] => True
 | r :: rs => RowOk P r /\ AllOk P rs
theorem AllOk.mem {P : Program} {l : List TRow} (h : AllOk P l) : ∀ r ∈ l, RowOk P r := by
 induction l with
 | nil => intro r hr; cases hr
 | cons x xs ih =>
  intro r hr
  rcases List.mem_cons.1 hr with rfl | hr
  ·exact h.1
  ·exact ih h.2 r hr
theorem findR_mem {l : List TRow} {t : Nat} {r : TRow} (h : findR l t = some r) : r ∈ l /\ r.t = t := by
 induction l with
 | nil => cases h
 | cons x xs ih =>
  simp only [findR] at h
  cases hb : Nat.beq x.t t with
  | true =>
   rw [hb] at h
   simp only [cond_true, Option.some.injEq] at h
   subst h
   exact ⟨List.mem_cons_self, Nat.eq_of_beq_eq_true hb⟩
  | false =>
   rw [hb] at h
   obtain ⟨h1, h2⟩ := ih h
   exact ⟨List.mem_cons_of_mem _ h1, h2⟩
theorem mkE_ok {P : Program} {l : List TRow} {ov : Bool} {ent : Ty} (h : ∀ r ∈ l, RowOk P r) : TOk P (mkE l ov ent) := by
 refine ⟨λ t d hd => ?_, λ t n hn => ?_, λ t v hv => ?_, λ t ks hk => ?_⟩
 ·simp only [mkE] at hd
  split at hd
  ·rename_i r hr
   obtain ⟨h1, h2⟩ := findR_mem hr
   cases hd
   rw [<- h2]; exact (h r h1).ud
  ·cases hd
 ·simp only [mkE] at hn
  split at hn
  ·rename_i r hr
   obtain ⟨h1, h2⟩ := findR_mem hr
   cases hn
   obtain ⟨i, hi, hs, _⟩ := (h r h1).info
   exact ⟨i, by rw [<- h2]; exact hi, hs⟩
  ·cases hn
 ·simp only [mkE] at hv
  split at hv
  ·rename_i r hr
   obtain ⟨h1, h2⟩ := findR_mem hr
   obtain ⟨i, hi, _, hz⟩ := (h r h1).info
   exact ⟨i, by rw [<- h2]; exact hi, hz _ hv⟩
  ·cases hv
 ·simp only [mkE] at hk
  split at hk
  ·rename_i r hr
   obtain ⟨h1, h2⟩ := findR_mem hr
   rw [<- h2]; exact (h r h1).feq ks hk
  ·cases hk
theorem info_of {P : Program} {t : Nat} {i : TypeInfo} {n : Nat} (hs : P.types.size = n) (hlt : Nat.blt t n = true) (h : P.types[t]? = some i) : P.info? t = some i := by
 unfold Tables.info?
 have : t < P.types.size := by rw [hs]; exact Nat.lt_of_succ_le (by simpa [Nat.blt] using hlt)
 rw [if_pos this]; exact h
def FeqL (P : Program) : List Field -> Nat -> List Nat -> Prop
 | [], _, [] => True
 | f :: fs, i, c :: cs => (f.name ≠ "_" /\ f.offset = i /\ P.underlying f.type = leafD c) /\ FeqL P fs (i + 1) cs
 | _, _, _ => False
theorem FeqL_get {P : Program} (fs : List Field) : ∀ (k : Nat) (cs : List Nat), FeqL P fs k cs -> fs.length = cs.length /\ ∀ (i : Nat) (f : Field), fs[i]? = some f -> f.name ≠ "_" /\ f.offset = k + i /\ ∃ c, cs[i]? = some c /\ P.underlying f.type = leafD c := by
 induction fs with
 | nil => intro k cs h; cases cs with
  | nil => exact ⟨rfl, λ i f hf => by simp at hf⟩
  | cons => exact h.elim
 | cons f fs ih =>
  intro k cs h
  cases cs with
  | nil => exact h.elim
  | cons c cs =>
   obtain ⟨⟨h1, h2, h3⟩, hr⟩ := h
   obtain ⟨hl, hg⟩ := ih _ _ hr
   refine ⟨by simp [hl], λ i f' hf => ?_⟩
   cases i with
   | zero =>
    simp only [List.getElem?_cons_zero, Option.some.injEq] at hf
    subst hf
    exact ⟨h1, by omega, c, rfl, h3⟩
   | succ i =>
    obtain ⟨a, b, d, e, g⟩ := hg i f' (by simpa using hf)
    exact ⟨a, by omega, d, by simpa using e, g⟩
theorem rowOk_plain {P : Program} {r : TRow} {i : TypeInfo} (h1 : P.underlying r.t = some r.d) (h2 : P.info? r.t = some i) (h3 : i.size = r.sz) (h4 : r.zv = none ∨ i.zero = r.zv) (h5 : r.feq = none) : RowOk P r :=
 ⟨h1, ⟨i, h2, h3, λ v hv => by rcases h4 with h | h <;> rw [hv] at h <;> first | cases h | exact h⟩, λ ks hk => by rw [h5] at hk; cases hk⟩
theorem rowOk_struct {P : Program} {r : TRow} {i : TypeInfo} {fs : Array Field} {ks : List Nat} (h1 : P.underlying r.t = some r.d) (h2 : P.info? r.t = some i) (h3 : i.size = r.sz) (h4 : r.zv = none ∨ i.zero = r.zv)
  (h5 : r.feq = some ks) (h6 : r.d = .struct fs) (h7 : P.stoodInHeld r.t = false) (h8 : P.eqGuardType P.depth r.t = false) (h9 : FeqL P fs.toList 0 ks) : RowOk P r :=
 ⟨h1, ⟨i, h2, h3, λ v hv => by rcases h4 with h | h <;> rw [hv] at h <;> first | cases h | exact h⟩, λ ks' hk => by
  rw [h5] at hk; cases hk
  obtain ⟨hl, hg⟩ := FeqL_get _ _ _ h9
  exact ⟨fs, by rw [h1, h6], h7, h8, by simpa using hl, λ j f hf => by simpa using hg j f (by simpa using hf)⟩⟩
def LdI (G h : Heap) (k : IntKind) (a : Addr) (K : Int -> Prop) : Prop := ∃ n, hcell (rd G h) a = some (.int k n) /\ K n
def LdB (G h : Heap) (a : Addr) (K : Bool -> Prop) : Prop := ∃ n, hcell (rd G h) a = some (.bool n) /\ K n
def LdS (G h : Heap) (a : Addr) (K : ByteArray -> Prop) : Prop := ∃ n, hcell (rd G h) a = some (.string n) /\ K n
def LdP (G h : Heap) (a : Addr) (K : Option Addr -> Prop) : Prop := ∃ n, hcell (rd G h) a = some (.pointer n) /\ K n
def LdSl (G h : Heap) (a : Addr) (K : Option Addr -> Nat -> Nat -> Prop) : Prop := ∃ p l c, hcell (rd G h) a = some (.slice p l c) /\ K p l c
def LdM (G h : Heap) (a : Addr) (K : Option Nat -> Prop) : Prop := ∃ n, hcell (rd G h) a = some (.map n) /\ K n
def LdV (G h : Heap) (a : Addr) (K : Value -> Prop) : Prop := ∃ n, hcell (rd G h) a = some n /\ K n
def Rq (c K : Prop) : Prop := c /\ K
end Go.Sl
namespace Go.Sl
open Go
@[reducible] def ad (a : Addr) (i : Nat) : Addr := ⟨a.block, a.off + i, none⟩
def bodyOf (f : Func) : Code := match f.body with | some c => c | none => .skip
def rangeL : Nat -> List Nat
 | 0 => []
 | n + 1 => n :: rangeL n
def bs (l : List Nat) : ByteArray := ⟨(l.map UInt8.ofNat).toArray⟩
def descOf (P : Program) (t : Nat) : TypeDesc := (P.underlying t).getD .invalid
theorem descOf_ok {P : Program} {t : Nat} {d : TypeDesc} (h : P.underlying t = some d) : P.underlying t = some (descOf P t) := by
 unfold descOf; rw [h]; rfl
end Go.Sl
namespace Go.Sl
open Go
def bOk (P : Program) (f : Nat) (fn : Func) (n : Nat) (ann : Nat -> LAnn) : Bool :=
 fn.body.isSome && (!(fn.name == "runtime.NumGoroutine") && (wIn (rangeL n) (bodyOf fn) && annOk ann n (bodyOf fn)))
theorem callF_b {E : TE} {P : Program} (T : TOk P E) (hm : P.follows .mixedOrders = true) {G : Heap} {f : FuncId} {fn : Func} {args : Array Value} {n : Nat} {ann : Nat -> LAnn}
  {K : Value -> Heap -> Prop} {Kp : PK} {h : Heap} (hf : P.funcs[f]? = some fn) (hn : fn.ntmps = n) (hb : bOk P f fn n ann = true) (hsz : Nat.ble args.toList.length n = true)
  (hh : vcC E P G n ann Kp (bodyOf fn) (retQ E G fn.results.toList K) (frmA args.toList 0) h) : CallF P G f args K Kp h := by
 unfold bOk at hb
 simp only [Bool.and_eq_true, Bool.not_eq_true'] at hb
 obtain ⟨h1, h2, h3, h4⟩ := hb
 obtain ⟨c, hc⟩ := Option.isSome_iff_exists.1 h1
 have hbody : bodyOf fn = c := by unfold bodyOf; rw [hc]
 refine callF_of hf (by rw [hc]; rfl) h2 (callSl_of T hm hf hc hn hsz (W := rangeL n) (by rw [<- hbody]; exact h3) (by rw [<- hbody]; exact h4) (by rw [<- hbody]; exact hh))
end Go.Sl
namespace Go.Sl
open Go
def hdisj (a b : Heap) : Prop := ∀ n, a n = none ∨ b n = none
def hsub (a b : Heap) : Prop := ∀ n o, a n = some o -> b n = some o
def single (b : Nat) (o : Obj) : Heap := λ n => if n = b then some o else none
theorem hdisj.symm {a b : Heap} (h : hdisj a b) : hdisj b a := λ n => (h n).symm
theorem single_self {b : Nat} {o : Obj} : single b o b = some o := by simp [single]
theorem single_some {b n : Nat} {o o' : Obj} (h : single b o n = some o') : n = b /\ o = o' := by
 unfold single at h; split at h
 ·rename_i e; exact ⟨e, by simpa using h⟩
 ·cases h
theorem hdisj_single {b : Nat} {o o' : Obj} {c : Heap} : hdisj (single b o) c -> hdisj (single b o') c := λ h n => by
 rcases h n with h | h
 ·refine .inl ?_
  unfold single at *
  split at h
  ·cases h
  ·rename_i e; simp [e]
 ·exact .inr h
structure Own (G h : Heap) (L : List Heap) : Prop where
 g : hdisj h G
 pw : L.Pairwise hdisj
 sub : ∀ c ∈ L, hsub c h
theorem Own.perm {G h : Heap} {L M : List Heap} (hO : Own G h L) (p : M.Perm L) : Own G h M :=
 ⟨hO.g, (List.Perm.pairwise_iff (λ h => h.symm) p).2 hO.pw, λ c hc => hO.sub c (p.mem_iff.1 hc)⟩
theorem Own.tail {G h : Heap} {c : Heap} {L : List Heap} (hO : Own G h (c :: L)) : Own G h L :=
 ⟨hO.g, (List.pairwise_cons.1 hO.pw).2, λ d hd => hO.sub d (List.mem_cons_of_mem _ hd)⟩
class Take (L : List Heap) (c : Heap) (L' : outParam (List Heap)) : Prop where
 perm : (c :: L').Perm L
instance Take.here (c : Heap) (L : List Heap) : Take (c :: L) c L := ⟨.refl _⟩
instance (priority := low) Take.there (d c : Heap) (L L' : List Heap) [t : Take L c L'] : Take (d :: L) c (d :: L') :=
 ⟨(List.Perm.swap d c L').trans (List.Perm.cons d t.perm)⟩
class Pick (L ins : List Heap) (rest : outParam (List Heap)) : Prop where
 perm : (ins ++ rest).Perm L
instance Pick.nil (L : List Heap) : Pick L [] L := ⟨.refl _⟩
instance Pick.cons (L : List Heap) (c : Heap) (cs L' rest : List Heap) [t : Take L c L'] [p : Pick L' cs rest] : Pick L (c :: cs) rest :=
 ⟨(List.Perm.cons c p.perm).trans t.perm⟩
class Find (L : List Heap) (b : Nat) (o : outParam Obj) (u : outParam (Obj -> List Heap)) : Prop where
 spec : ∃ pre post, L = pre ++ single b o :: post /\ ∀ o', u o' = pre ++ single b o' :: post
instance Find.here (b : Nat) (o : Obj) (L : List Heap) : Find (single b o :: L) b o (λ o' => single b o' :: L) := ⟨[], L, rfl, λ _ => rfl⟩
instance (priority := low) Find.there (c : Heap) (b : Nat) (o : Obj) (L : List Heap) (u : Obj -> List Heap) [f : Find L b o u] : Find (c :: L) b o (λ o' => c :: u o') :=
 ⟨by obtain ⟨pre, post, h1, h2⟩ := f.spec; exact ⟨c :: pre, post, by rw [h1]; rfl, λ o' => by rw [h2]; rfl⟩⟩
theorem Own.find {G h : Heap} {L : List Heap} (hO : Own G h L) {b : Nat} {o : Obj} {u : Obj -> List Heap} (f : Find L b o u) : h b = some o := by
 obtain ⟨pre, post, rfl, _⟩ := f.spec
 exact hO.sub _ (by simp) b o single_self
theorem Own.rd {G h : Heap} {L : List Heap} (hO : Own G h L) {b : Nat} {o : Obj} {u : Obj -> List Heap} (f : Find L b o u) : rd G h b = some o := by
 unfold Sl.rd; rw [hO.find f]
theorem Own.set {G h : Heap} {L : List Heap} (hO : Own G h L) {b : Nat} {o : Obj} {u : Obj -> List Heap} (f : Find L b o u) (o' : Obj) : Own G (hupd h b o') (u o') := by
 obtain ⟨pre, post, rfl, hu⟩ := f.spec
 have hb := hO.find f
 rw [hu]
 have hnot : ∀ c, c ∈ pre ∨ c ∈ post -> c b = none := λ c hc => by
  have hpw := hO.pw
  rw [List.pairwise_append] at hpw
  obtain ⟨_, h2, h3⟩ := hpw
  rcases hc with hc | hc
  ·exact (h3 c hc (single b o) (by simp) b).resolve_right (by simp [single_self])
  ·exact ((List.pairwise_cons.1 h2).1 c hc b).resolve_left (by simp [single_self])
 refine ⟨λ n => ?_, ?_, λ c hc => ?_⟩
 ·by_cases e : n = b
  ·subst e; exact .inr ((hO.g n).resolve_left (by simp [hb]))
  ·simp only [hupd, if_neg e]; exact hO.g n
 ·have hpw := hO.pw
  rw [List.pairwise_append] at hpw ⊢
  obtain ⟨h1, h2, h3⟩ := hpw
  obtain ⟨h4, h5⟩ := List.pairwise_cons.1 h2
  refine ⟨h1, List.pairwise_cons.2 ⟨λ c hc => hdisj_single (h4 c hc), h5⟩, λ c hc d hd => ?_⟩
  rcases List.mem_cons.1 hd with rfl | hd
  ·exact (hdisj_single (h3 c hc (single b o) (by simp)).symm).symm
  ·exact h3 c hc d (List.mem_cons_of_mem _ hd)
 ·intro n x hx
  simp only [List.mem_append, List.mem_cons] at hc
  by_cases e : n = b
  ·subst e
   rcases hc with hc | rfl | hc
   ·rw [hnot c (.inl hc)] at hx; cases hx
   ·obtain ⟨_, rfl⟩ := single_some hx; simp [hupd]
   ·rw [hnot c (.inr hc)] at hx; cases hx
  ·simp only [hupd, if_neg e]
   rcases hc with hc | rfl | hc
   ·exact hO.sub c (by simp [hc]) n x hx
   ·exact absurd (single_some hx).1 e
   ·exact hO.sub c (by simp [hc]) n x hx
theorem Own.new {G h : Heap} {L : List Heap} (hO : Own G h L) {r : Nat} (h1 : h r = none) (h2 : G r = none) (o : Obj) : Own G (hupd h r o) (single r o :: L) := by
 have hnone : ∀ c ∈ L, c r = none := λ c hc => by
  cases hx : c r with
  | none => rfl
  | some x => have := hO.sub c hc r x hx; rw [h1] at this; cases this
 refine ⟨λ n => ?_, List.pairwise_cons.2 ⟨λ c hc n => ?_, hO.pw⟩, λ c hc n x hx => ?_⟩
 ·by_cases e : n = r
  ·subst e; exact .inr h2
  ·simp only [hupd, if_neg e]; exact hO.g n
 ·by_cases e : n = r
  ·subst e; exact .inr (hnone c hc)
  ·exact .inl (by simp [single, e])
 ·rcases List.mem_cons.1 hc with rfl | hc
  ·obtain ⟨e1, e2⟩ := single_some hx; rw [e1, e2]; simp [hupd]
  ·have e : n ≠ r := λ e => by rw [e, hnone c hc] at hx; cases hx
   simp only [hupd, if_neg e]; exact hO.sub c hc n x hx
def join : List Heap -> Heap
 | [] => λ _ => none
 | c :: L => λ n => match c n with | some o => some o | none => join L n
structure JoinOf (c : Heap) (L : List Heap) : Prop where
 eq : c = join L
 pw : L.Pairwise hdisj
theorem join_some {L : List Heap} {n : Nat} {o : Obj} (h : join L n = some o) : ∃ c ∈ L, c n = some o := by
 induction L with
 | nil => cases h
 | cons c L ih =>
  simp only [join] at h
  split at h
  ·rename_i x hx; cases h; exact ⟨c, List.mem_cons_self, hx⟩
  ·obtain ⟨d, hd, hn⟩ := ih h; exact ⟨d, List.mem_cons_of_mem _ hd, hn⟩
theorem join_sub {L : List Heap} (pw : L.Pairwise hdisj) : ∀ c ∈ L, hsub c (join L) := by
 induction L with
 | nil => intro c hc; cases hc
 | cons d L ih =>
  obtain ⟨h1, h2⟩ := List.pairwise_cons.1 pw
  intro c hc n o ho
  simp only [join]
  rcases List.mem_cons.1 hc with rfl | hc
  ·rw [ho]
  ·have : d n = none := (h1 c hc n).resolve_right (by simp [ho])
   rw [this]; exact ih h2 c hc n o ho
theorem join_disj_of {L : List Heap} {d : Heap} (h : ∀ c ∈ L, hdisj c d) : hdisj (join L) d := λ n => by
 cases hj : join L n with
 | none => exact .inl rfl
 | some o =>
  obtain ⟨c, hc, hn⟩ := join_some hj
  exact .inr ((h c hc n).resolve_left (by simp [hn]))
theorem disj_of_join {L : List Heap} {d : Heap} (pw : L.Pairwise hdisj) (h : hdisj (join L) d) : ∀ c ∈ L, hdisj c d := λ c hc n => by
 cases hn : c n with
 | none => exact .inl rfl
 | some o => exact .inr ((h n).resolve_left (by rw [join_sub pw c hc n o hn]; simp))
theorem Own.openJ {G h : Heap} {c : Heap} {cs L : List Heap} (hO : Own G h (c :: L)) (hj : JoinOf c cs) : Own G h (cs ++ L) := by
 obtain ⟨rfl, pw⟩ := hj
 obtain ⟨h1, h2⟩ := List.pairwise_cons.1 hO.pw
 refine ⟨hO.g, List.pairwise_append.2 ⟨pw, h2, λ a ha b hb => disj_of_join pw (h1 b hb) a ha⟩, λ a ha n o ho => ?_⟩
 rcases List.mem_append.1 ha with ha | ha
 ·exact hO.sub _ List.mem_cons_self n o (join_sub pw a ha n o ho)
 ·exact hO.sub a (List.mem_cons_of_mem _ ha) n o ho
theorem Own.closeJ {G h : Heap} {cs L : List Heap} (hO : Own G h (cs ++ L)) : JoinOf (join cs) cs /\ Own G h (join cs :: L) := by
 obtain ⟨h1, h2, h3⟩ := List.pairwise_append.1 hO.pw
 refine ⟨⟨rfl, h1⟩, hO.g, List.pairwise_cons.2 ⟨λ b hb => join_disj_of λ a ha => h3 a ha b hb, h2⟩, λ a ha n o ho => ?_⟩
 rcases List.mem_cons.1 ha with rfl | ha
 ·obtain ⟨c, hc, hn⟩ := join_some ho
  exact hO.sub c (List.mem_append_left _ hc) n o hn
 ·exact hO.sub a (List.mem_append_right _ ha) n o ho
def huni (a b : Heap) : Heap := λ n => match a n with | some o => some o | none => b n
theorem Fr.split {G : Heap} {w : World} {a b : Heap} {F : RF} (hd : hdisj a b) (f : Fr G w (huni a b) F) : Fr G w a { F with f := huni b F } := by
 refine ⟨λ n => ?_, λ n o hn => f.own n o (by simp [huni, hn]), λ n o hn => ?_, λ n o hn => ?_, f.same⟩
 ·cases ha : a n with
  | none => exact .inl rfl
  | some o =>
   refine .inr ?_
   have hb : b n = none := (hd n).resolve_left (by simp [ha])
   have hF := (f.apart n).resolve_left (by simp [huni, ha])
   simp [huni, hb, hF]
 ·change huni b F.f n = some o at hn
  unfold huni at hn
  split at hn
  ·rename_i x hx; cases hn
   have ha : a n = none := (hd n).resolve_right (by simp [hx])
   exact f.own n o (by simp [huni, ha, hx])
  ·exact f.rest n o hn
 ·obtain ⟨h1, h2⟩ := f.glob n o hn
  refine ⟨h1, ?_⟩
  unfold huni at h2
  split at h2
  ·cases h2
  ·rename_i hx; exact hx
theorem Fr.unsplit {G : Heap} {w : World} {a b : Heap} {F : RF} (hbF : hdisj b F) (hbG : hdisj b G) (f : Fr G w a { F with f := huni b F }) : hdisj a b /\ Fr G w (huni a b) F := by
 have hd : hdisj a b := λ n => by
  rcases f.apart n with h | h
  ·exact .inl h
  ·refine .inr ?_
   change huni b F.f n = none at h
   unfold huni at h
   split at h
   ·cases h
   ·rename_i hx; exact hx
 refine ⟨hd, λ n => ?_, λ n o hn => ?_, λ n o hn => ?_, λ n o hn => ?_, f.same⟩
 ·cases hF : F n with
  | none => exact .inr rfl
  | some o =>
   have hb : b n = none := (hbF n).resolve_right (by simp [hF])
   have := (f.apart n).resolve_right (by simp [huni, hb, hF])
   exact .inl (by simp [huni, this, hb])
 ·unfold huni at hn
  split at hn
  ·rename_i x hx; cases hn; exact f.own n o hx
  ·exact f.rest n o (by simp [huni, hn])
 ·have hb : b n = none := (hbF n).resolve_right (by simp [hn])
  exact f.rest n o (by simp [huni, hb, hn])
 ·obtain ⟨h1, h2⟩ := f.glob n o hn
  have hb : b n = none := (hbG n).resolve_right (by simp [hn])
  exact ⟨h1, by simp [huni, h2, hb]⟩
theorem CallSl.frame {P : Program} {G : Heap} {f : FuncId} {args : Array Value} {K : Value -> Heap -> Prop} {Kp : PK} {a b : Heap} (hd : hdisj a b) (hbG : hdisj b G) (hh : CallSl P G f args K Kp a) :
  CallSl P G f args (λ v h => ∃ a', K v a' /\ hdisj a' b /\ h = huni a' b) (λ c h => ∃ a', Kp c a' /\ hdisj a' b /\ h = huni a' b) (huni a b) := λ w F fr => by
 have hbF : hdisj b F := λ n => by
  cases hb : b n with
  | none => exact .inl rfl
  | some o =>
   have ha : a n = none := (hd n).resolve_right (by simp [hb])
   exact .inr ((fr.apart n).resolve_left (by simp [huni, ha, hb]))
 refine Calls.mono (hh w { F with f := huni b F } (fr.split hd)) λ e w' he => ?_
 cases e with
 | returned v =>
  obtain ⟨a', h1, h2⟩ := he
  obtain ⟨h3, h4⟩ := h2.unsplit hbF hbG
  exact ⟨_, ⟨a', h1, h3, rfl⟩, h4⟩
 | panicked c =>
  obtain ⟨a', h1, h2⟩ := he
  obtain ⟨h3, h4⟩ := h2.unsplit hbF hbG
  exact ⟨_, ⟨a', h1, h3, rfl⟩, h4⟩
 | outgrown => exact he
end Go.Sl
namespace Go.Sl
open Go
theorem sl_askRoom {P : Program} {G : Heap} {β : Type} {n : Nat} {f : Unit -> Sem β} {K : β -> Heap -> Prop} {Kp : Value -> Heap -> Prop} {h : Heap} (hs : sl P G (f ()) K Kp h) : sl P G (askRoom n >>= f) K Kp h := by
 unfold askRoom
 split
 ·exact hs
 ·exact hs
theorem sl_new {P : Program} {G : Heap} {β : Type} {o : Obj} {f : Nat -> Sem β} {K : β -> Heap -> Prop} {Kp : Value -> Heap -> Prop} {h : Heap} (hs : ∀ r, h r = none -> G r = none -> sl P G (f r) K Kp (hupd h r o)) :
  sl P G (newObj o >>= f) K Kp h := hs
theorem sl_choose {P : Program} {G : Heap} {β : Type} {q : Question} {f : Nat -> Sem β} {K : β -> Heap -> Prop} {Kp : Value -> Heap -> Prop} {h : Heap} (h0 : sl P G (f 0) K Kp h ∨ q.forced = false) (hs : ∀ t, sl P G (f (q.cut t)) K Kp h) :
  sl P G (choose q >>= f) K Kp h := by
 show sl P G (.choose q _) K Kp h
 simp only [sl]
 split
 ·rename_i hf; rcases h0 with h0 | h0
  ·exact h0
  ·rw [h0] at hf; cases hf
 ·exact hs
theorem add_none {a : Addr} (h : a.spot = none) (i : Nat) : a.add i = ⟨a.block, a.off + i, none⟩ := by
 unfold Addr.add
 split
 ·rename_i e; subst e; cases a; simp at h; simp [h]
 ·rfl
theorem add_mk (b o i : Nat) : (⟨b, o, none⟩ : Addr).add i = ⟨b, o + i, none⟩ := add_none rfl i
theorem sl_loadV {P : Program} {G h : Heap} {β : Type} (a : Addr) (vs : List Value) : ∀ (i : Nat) (acc : Array Value) {f : Array Value -> Sem β} {K : β -> Heap -> Prop} {Kp : Value -> Heap -> Prop},
  (∀ j v, vs[j]? = some v -> hcell (rd G h) (a.add (i + j)) = some v) -> sl P G (f (acc ++ vs.toArray)) K Kp h -> sl P G (loadCellsFrom a i vs.length acc >>= f) K Kp h := by
 induction vs with
 | nil =>
  intro i acc f K Kp hv hk
  have : acc ++ ([] : List Value).toArray = acc := by apply Array.ext'; simp
  rw [this] at hk; exact hk
 | cons v vs ih =>
  intro i acc f K Kp hv hk
  show sl P G (Sem.bind (Sem.bind (Sem.load .plain (a.add i) .pure) _) f) K Kp h
  refine ⟨v, hv 0 v rfl, ?_⟩
  refine ih (i + 1) (acc.push v) (λ j w hj => by rw [Nat.add_assoc, Nat.add_comm 1]; exact hv (j + 1) w (by simpa using hj)) ?_
  have : acc ++ (v :: vs).toArray = acc.push v ++ vs.toArray := by apply Array.ext'; simp
  rwa [this] at hk
def wr (l : List Value) (i : Nat) (vs : List Value) : List Value := l.take i ++ vs ++ l.drop (i + vs.length)
theorem wr_set {l : List Value} {i : Nat} {v : Value} {vs : List Value} (h : i + (v :: vs).length <= l.length) : wr (l.set i v) (i + 1) vs = wr l i (v :: vs) := by
 simp only [List.length_cons] at h
 apply List.ext_getElem?
 intro n
 simp only [wr, List.getElem?_append, List.getElem?_take, List.getElem?_drop, List.getElem?_set, List.length_append, List.length_take, List.length_set, List.length_cons]
 have e1 : min (i + 1) l.length = i + 1 := by omega
 have e2 : min i l.length = i := by omega
 rw [e1, e2]
 by_cases h1 : n < i
 ·simp [h1, show n < i + 1 + vs.length by omega, show n < i + 1 by omega, show n < i + (vs.length + 1) by omega, show ¬ i = n by omega]
 ·by_cases h2 : n = i
  ·subst h2; simp [show n < n + 1 + vs.length by omega, show n < l.length by omega]
  ·by_cases h3 : n < i + 1 + vs.length
   ·simp only [h3, show n < i + (vs.length + 1) by omega, if_true, show ¬ n < i + 1 by omega, h1, if_false]
    rw [show n - i = (n - (i + 1)) + 1 by omega]; rfl
   ·simp only [h3, show ¬ n < i + (vs.length + 1) by omega, if_false, show ¬ i = i + 1 + vs.length + (n - (i + 1 + vs.length)) by omega]
    congr 1
    omega
theorem hupd_hupd (h : Heap) (b : Nat) (o o' : Obj) : hupd (hupd h b o) b o' = hupd h b o' := by
 funext n; simp only [hupd]; split <;> rfl
theorem stL_blk {a : Addr} (hsp : a.spot = none) (vs : List Value) : ∀ {h : Heap} {cs : List Value} {t : TypeId} {z : Nat × Nat} {j : Nat} {K : Heap -> Prop}, h a.block = some (.cells cs.toArray t z) -> (∀ i, i < cs.length -> ofrozen (.cells cs.toArray t z) i = false) ->
  (∀ v ∈ vs, plainV v = true) -> a.off + j + vs.length <= cs.length -> K (hupd h a.block (.cells (wr cs (a.off + j) vs).toArray t z)) -> stL a vs j K h := by
 induction vs with
 | nil =>
  intro h cs t z j K hb hz hp hl hk
  have : hupd h a.block (.cells (wr cs (a.off + j) []).toArray t z) = h := by
   funext n; simp only [hupd, wr]; split
   ·rename_i e; rw [e, hb]; simp
   ·rfl
  rw [this] at hk; exact hk
 | cons v vs ih =>
  intro h cs t z j K hb hz hp hl hk
  simp only [List.length_cons] at hl
  show st1 (a.add j) v _ h
  rw [add_none hsp]
  refine ⟨hp v (by simp), _, hb, ⟨cs[a.off + j]'(by omega), ?_⟩, hz _ (by show a.off + j < _; omega), ?_⟩
  ·simp [ocell]
  ·refine ih (cs := cs.set (a.off + j) v) (t := t) (z := z) ?_ ?_ (λ w hw => hp w (by simp [hw])) (by simp; omega) ?_
   ·simp [hupd, oset]
   ·intro i hi
    have := hz i (by simpa using hi)
    simpa [ofrozen] using this
   ·rw [show a.off + (j + 1) = (a.off + j) + 1 by omega, wr_set (by simp; omega)]
    simpa [hupd_hupd, oset] using hk
end Go.Sl
namespace Go.Sl
open Go
structure En (α : Type) where
 t : TypeId
 m : Nat
 E : α -> List Value
 z : α
structure En.Ok {α : Type} (e : En α) : Prop where
 hm : ∀ x, (e.E x).length = e.m
 pos : 0 < e.m
 hp : ∀ x, ∀ v ∈ e.E x, plainV v = true
def En.F {α : Type} (e : En α) (xs : List α) : List Value := xs.flatMap e.E
theorem En.F_app {α : Type} (e : En α) (xs ys : List α) : e.F (xs ++ ys) = e.F xs ++ e.F ys := by simp [En.F]
theorem En.F_cons {α : Type} (e : En α) (x : α) (ys : List α) : e.F (x :: ys) = e.E x ++ e.F ys := by simp [En.F]
theorem En.F_len {α : Type} {e : En α} (ok : e.Ok) (xs : List α) : (e.F xs).length = xs.length * e.m := by
 induction xs with
 | nil => simp [En.F]
 | cons x xs ih => rw [En.F_cons, List.length_append, ih, ok.hm, List.length_cons, Nat.succ_mul]; omega
theorem En.F_plain {α : Type} {e : En α} (ok : e.Ok) (xs : List α) : ∀ v ∈ e.F xs, plainV v = true := λ v hv => by
 obtain ⟨x, _, h⟩ := List.mem_flatMap.1 hv
 exact ok.hp x v h
theorem En.F_get {α : Type} {e : En α} (ok : e.Ok) {xs : List α} {i j : Nat} {x : α} (hx : xs[i]? = some x) (hj : j < e.m) : (e.F xs)[i * e.m + j]? = (e.E x)[j]? := by
 induction xs generalizing i with
 | nil => simp at hx
 | cons y xs ih =>
  rw [En.F_cons]
  cases i with
  | zero =>
   simp only [List.getElem?_cons_zero, Option.some.injEq] at hx; subst hx
   rw [Nat.zero_mul, Nat.zero_add, List.getElem?_append_left (by rw [ok.hm]; exact hj)]
  | succ i =>
   rw [List.getElem?_append_right (by rw [ok.hm, Nat.succ_mul]; omega), ok.hm, show (i + 1) * e.m + j - e.m = i * e.m + j by rw [Nat.succ_mul]; omega]
   exact ih (by simpa using hx)
theorem En.F_set {α : Type} {e : En α} (ok : e.Ok) {xs : List α} {i j : Nat} {x y : α} {v : Value} (hx : xs[i]? = some x) (hj : j < e.m) (hy : e.E y = (e.E x).set j v) : (e.F xs).set (i * e.m + j) v = e.F (xs.set i y) := by
 induction xs generalizing i with
 | nil => simp at hx
 | cons w xs ih =>
  cases i with
  | zero =>
   simp only [List.getElem?_cons_zero, Option.some.injEq] at hx; subst hx
   rw [List.set_cons_zero, En.F_cons, En.F_cons, Nat.zero_mul, Nat.zero_add, List.set_append_left _ _ (by rw [ok.hm]; exact hj), hy]
  | succ i =>
   rw [List.set_cons_succ, En.F_cons, En.F_cons, List.set_append_right _ _ (by rw [ok.hm, Nat.succ_mul]; omega), ok.hm, show (i + 1) * e.m + j - e.m = i * e.m + j by rw [Nat.succ_mul]; omega, ih (by simpa using hx)]
def emp : Heap := λ _ => none
def zok (z : Nat × Nat) (n : Nat) : Prop := ∀ i, i < n -> (z.1 <= i && i < z.2) = false
def blk {α : Type} (e : En α) (z : Nat × Nat) (xs : List α) : Obj := .cells (e.F xs).toArray e.t z
inductive Sli {α : Type} (e : En α) : Option Addr -> Nat -> Nat -> List α -> Heap -> Prop
 | no : Sli e none 0 0 [] emp
 | bk {b : Nat} {xs : List α} (js : List α) (z : Nat × Nat) : zok z ((xs ++ js).length * e.m) -> Sli e (some ⟨b, 0, none⟩) xs.length (xs.length + js.length) xs (single b (blk e z (xs ++ js)))
theorem Sli.len {α : Type} {e : En α} {p : Option Addr} {l c : Nat} {xs : List α} {pc : Heap} (h : Sli e p l c xs pc) : l = xs.length := by cases h <;> rfl
theorem Sli.cap {α : Type} {e : En α} {p : Option Addr} {l c : Nat} {xs : List α} {pc : Heap} (h : Sli e p l c xs pc) : l <= c := by cases h <;> simp
def RdS {α : Type} (G h : Heap) (e : En α) (p : Option Addr) (l : Nat) (xs : List α) : Prop :=
 l = xs.length /\ match p with
  | none => l = 0
  | some a => ∀ i v, (e.F xs)[i]? = some v -> hcell (rd G h) (a.add i) = some v
theorem own_piece {G h : Heap} {L : List Heap} (hO : Own G h L) {c : Heap} (hc : c ∈ L) {b : Nat} {o : Obj} (ho : c b = some o) : rd G h b = some o := by
 unfold rd; rw [hO.sub c hc b o ho]
theorem Sli.rd {α : Type} {e : En α} {p : Option Addr} {l c : Nat} {xs : List α} {pc : Heap} (hs : Sli e p l c xs pc) {G h : Heap} {L : List Heap} (hO : Own G h L) (hc : pc ∈ L) : RdS G h e p l xs := by
 cases hs with
 | no => exact ⟨rfl, rfl⟩
 | bk js z hz =>
  refine ⟨rfl, λ i v hv => ?_⟩
  rw [add_mk, Nat.zero_add]
  unfold hcell
  rw [own_piece hO hc single_self]
  have hi : i < (e.F xs).length := (List.getElem?_eq_some_iff.1 hv).1
  simp only [Option.bind_some, ocell, blk, Option.isSome_none, Bool.false_eq_true, if_false, List.getElem?_toArray, En.F_app]
  rw [List.getElem?_append_left hi]; exact hv
theorem RdS.part {α : Type} {e : En α} (ok : e.Ok) {G h : Heap} {a : Addr} {l : Nat} {xs : List α} (hr : RdS G h e (some a) l xs) (hsp : a.spot = none) (i n : Nat) (hl : i + n <= l) : RdS G h e (some (a.add (i * e.m))) n ((xs.drop i).take n) := by
 obtain ⟨h1, h2⟩ := hr
 refine ⟨by simp; omega, λ j v hj => ?_⟩
 rw [add_none hsp, add_mk, Nat.add_assoc, <- add_none hsp]
 apply h2
 have hsplit : e.F xs = e.F (xs.take i) ++ (e.F ((xs.drop i).take n) ++ e.F ((xs.drop i).drop n)) := by
  rw [<- En.F_app, <- En.F_app, List.take_append_drop, List.take_append_drop]
 have hlen : (e.F (xs.take i)).length = i * e.m := by rw [En.F_len ok]; simp; rw [Nat.min_eq_left (by omega)]
 have hj' := (List.getElem?_eq_some_iff.1 hj).1
 rw [hsplit, List.getElem?_append_right (by omega), hlen, Nat.add_sub_cancel_left, List.getElem?_append_left hj']
 exact hj
structure SlT (P : Program) (t : TypeId) {α : Type} (e : En α) : Prop where
 ok : e.Ok
 ud : P.underlying t = some (.slice e.t)
 info : ∃ i, P.info? e.t = some i /\ i.size = e.m /\ i.bytes <= 1024 /\ ∃ v, i.zero = some v /\ v.cells = (e.E e.z).toArray
theorem pr_typeInfo {P : Program} {t : TypeId} {i : TypeInfo} (h : P.info? t = some i) : pr P (typeInfo t) = some i := by
 unfold typeInfo
 simp only [pr_bind, pr_program, Option.bind_some, h]; rfl
theorem pr_sizeOf {P : Program} {t : TypeId} {i : TypeInfo} (h : P.info? t = some i) : pr P (sizeOf t) = some i.size := by
 unfold sizeOf; rw [pr_bind, pr_typeInfo h]; rfl
theorem pr_zeroValue {P : Program} {t : TypeId} {i : TypeInfo} (h : P.info? t = some i) {v : Value} (hv : i.zero = some v) : pr P (zeroValue t) = some v := by
 unfold zeroValue; rw [pr_bind, pr_typeInfo h]; simp only [Option.bind_some, hv]; rfl
theorem growBy_le (n : Nat) : ∀ r c, c <= n -> Builtin.growBy n r c <= n + n / 4 + 192 := by
 intro r
 induction r with
 | zero => intro c hc; simp only [Builtin.growBy]; omega
 | succ r ih =>
  intro c hc
  simp only [Builtin.growBy]
  split
  ·omega
  ·by_cases h : c + (c + 768) / 4 <= n
   ·exact ih _ h
   ·cases r with
    | zero => simp only [Builtin.growBy]; omega
    | succ r => simp only [Builtin.growBy]; rw [if_pos (by omega)]; omega
theorem nextcap_le {need cap : Nat} (h : cap < need) : Builtin.nextslicecap need cap <= 2 * need + 192 := by
 unfold Builtin.nextslicecap
 split
 ·omega
 ·split
  ·omega
  ·have := growBy_le need 4 cap (by omega); omega
theorem repeat_F {α : Type} {e : En α} (ok : e.Ok) (n : Nat) : (Builtin.zeroCells (e.E e.z).toArray n) = (e.F (List.replicate n e.z)).toArray := by
 unfold Builtin.zeroCells
 have hs : (e.E e.z).toArray.size = e.m := by simp [ok.hm]
 apply Array.ext'
 simp only [hs]
 apply List.ext_getElem?
 intro k
 have hlen : (e.F (List.replicate n e.z)).length = n * e.m := by rw [En.F_len ok]; simp
 by_cases hk : k < n * e.m
 ·have hpos := ok.pos
  have h1 : k = (k / e.m) * e.m + k % e.m := by rw [Nat.mul_comm]; exact (Nat.div_add_mod k e.m).symm
  have h2 : k % e.m < e.m := Nat.mod_lt _ hpos
  have h3 : k / e.m < n := (Nat.div_lt_iff_lt_mul hpos).2 hk
  have hg : (List.replicate n e.z)[k / e.m]? = some e.z := by simp [h3]
  have := En.F_get ok hg h2
  rw [<- h1] at this
  rw [this]
  simp [hk, h2, ok.hm, List.getElem?_eq_getElem]
 ·rw [List.getElem?_eq_none (by simp; omega), List.getElem?_eq_none (by omega)]
end Go.Sl
