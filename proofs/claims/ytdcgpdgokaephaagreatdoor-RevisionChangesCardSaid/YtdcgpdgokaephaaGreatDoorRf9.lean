/- P18.7: the changes turn the one text into the other. Part 9 of 12. -/
import Derived.LaidMore
import Derived.LaidSub
import Derived.Lib.LaidU8
import Derived.Carry
import Derived.ChangeAlike
import Derived.Test.YtdcgpdgokaephaaGreatDoorRf8
set_option linter.unusedVariables false
set_option linter.unusedSimpArgs false
set_option linter.unusedSectionVars false
set_option maxRecDepth 100000
namespace Go.Sl
open Go Go.Proofs
variable {G h : Heap} {L R : List Heap} {K : Value -> Heap -> Prop} {Kp : PK}
def CO (a b : List Elm) : Prop := (a.filter λ x => decide (x ∈ b)) = b.filter λ x => decide (x ∈ a)
theorem filter_both {p q : Elm -> Bool} (l : List Elm) : (l.filter p).filter q = l.filter λ x => p x && q x := by
 rw [List.filter_filter]
 exact List.filter_congr λ x _ => Bool.and_comm _ _
theorem delL_filter {d : List Elm} {p : Nat} {x : Elm} (h : d[p]? = some x) (hn : d.Nodup) : delL p d = d.filter λ e => decide (e ≠ x) := by
 have h2 := split_at h
 have hn2 : (x :: (d.take p ++ d.drop (p + 1))).Nodup := by
  rw [h2] at hn
  exact (List.perm_middle.nodup_iff).1 hn
 have hx := (List.nodup_cons.1 hn2).1
 have hf : (d.take p ++ d.drop (p + 1)).filter (λ e => decide (e ≠ x)) = d.take p ++ d.drop (p + 1) := List.filter_eq_self.2 λ e he => by
  simp only [ne_eq, decide_eq_true_eq]
  rintro rfl; exact hx he
 conv => rhs; rw [h2]
 rw [List.filter_append, List.filter_cons_of_neg (by simp), <- List.filter_append, hf]
 rfl
theorem ins_filter {d : List Elm} {p : Nat} {x : Elm} {q : Elm -> Bool} (h : q x = false) : (insL p x d).filter q = d.filter q := by
 unfold insL
 rw [List.filter_append, List.filter_append, List.filter_cons_of_neg (by simp [h]), List.filter_nil, List.append_nil, <- List.filter_append, List.take_append_drop]
theorem texts_co {D : List Op} (hf : FitL [] D) (hu : Apt D) {j : Nat} : ∀ k, j <= k -> k <= D.length -> CO (replayD (D.take j)) (replayD (D.take k)) := by
 intro k hjk
 obtain ⟨i, rfl⟩ : ∃ i, k = j + i := ⟨k - j, by omega⟩
 clear hjk
 induction i with
 | zero => intro _; rfl
 | succ i ih =>
  intro hk
  have ih := ih (by omega)
  have ho : D[j + i]? = some (D[j + i]'(by omega)) := List.getElem?_eq_getElem _
  generalize D[j + i]'(by omega) = o at ho
  have hfo := hf.at ho
  rw [show applyL [] (D.take (j + i)) = replayD (D.take (j + i)) from rfl] at hfo
  have hnd := (texts_ok hf hu (j + i) (by omega)).1
  rw [show j + (i + 1) = j + i + 1 by omega, replayD_succ ho]
  unfold CO at ih ⊢
  rcases hfo.k with ⟨k0, hk0⟩ | ⟨k0, hk0⟩ | ⟨k0, hk0⟩
  ·rw [app0 k0]; exact ih
  ·rw [app1 k0]
   have him := (ins_mem hf hu ⟨o, ho, k0, rfl⟩).2 j (by omega)
   rw [ins_filter (by simpa [elO] using him), <- ih]
   refine List.filter_congr λ x hx => ?_
   have hne : x ≠ elO o := λ e => him (e ▸ hx)
   rw [Bool.eq_iff_iff]
   simp only [decide_eq_true_eq]
   rw [mem_insL]
   exact ⟨λ h => h.elim (λ h => absurd h hne) id, .inr⟩
  ·rw [app2 k0]
   have hp : (replayD (D.take (j + i)))[o.pos.toNat]? = some ((replayD (D.take (j + i)))[o.pos.toNat]'(by omega)) := List.getElem?_eq_getElem _
   generalize (replayD (D.take (j + i)))[o.pos.toNat]'(by omega) = y at hp
   have h1 : (delL o.pos.toNat (replayD (D.take (j + i)))).filter (λ x => decide (x ∈ replayD (D.take j))) = ((replayD (D.take (j + i))).filter λ x => decide (x ∈ replayD (D.take j))).filter λ x => decide (x ≠ y) := by
    rw [delL_filter hp hnd, List.filter_filter, List.filter_filter]
    exact List.filter_congr λ x _ => Bool.and_comm _ _
   rw [h1, <- ih, filter_both]
   refine List.filter_congr λ x hx => ?_
   rw [Bool.eq_iff_iff]
   simp only [decide_eq_true_eq, Bool.and_eq_true]
   exact mem_delL hp hnd
theorem CO.symm {a b : List Elm} (h : CO a b) : CO b a := Eq.symm h
def PutOk (d : List Elm) (o : Op) : Prop := (o.kind = 1 /\ 0 <= o.pos /\ o.pos <= d.length) ∨ (o.kind = 2 /\ 0 <= o.pos /\ o.ch = 0 /\ ∃ x, d[o.pos.toNat]? = some x /\ x.client = o.client /\ x.seq = o.seq)
def PutsL : List Elm -> List Op -> List Elm -> Prop
 | d, [], d' => d = d'
 | d, o :: os, d' => PutOk d o /\ PutsL (applyD d o) os d'
theorem PutsL.app : ∀ {a b : List Op} {d d' d'' : List Elm}, PutsL d a d' -> PutsL d' b d'' -> PutsL d (a ++ b) d''
 | [], _, _, _, _, h1, h2 => by cases h1; exact h2
 | _ :: _, _, _, _, _, h1, h2 => ⟨h1.1, PutsL.app h1.2 h2⟩
theorem drop_at {d : List Elm} {m : Nat} {x : Elm} (h : d[m]? = some x) : d.drop m = x :: d.drop (m + 1) := by
 obtain ⟨h1, h2⟩ := List.getElem?_eq_some_iff.1 h
 rw [List.drop_eq_getElem_cons h1, h2]
theorem take_at {d : List Elm} {m : Nat} {x : Elm} (h : d[m]? = some x) : d.take (m + 1) = d.take m ++ [x] := by
 rw [List.take_add_one, h]; rfl
theorem dels (old now : List Elm) : ∀ m, m <= old.length -> PutsL (old.take m ++ (old.drop m).filter λ x => decide (x ∈ now)) ((((List.range m).filter λ i => lk now old[i]?).reverse).map λ (i : Nat) => dop old (i : Int)) (old.filter λ x => decide (x ∈ now)) := by
 intro m
 induction m with
 | zero => intro _; exact rfl
 | succ m ih =>
  intro hm
  have ih := ih (by omega)
  have hx : old[m]? = some (old[m]'(by omega)) := List.getElem?_eq_getElem _
  generalize old[m]'(by omega) = x at hx
  have htl : (old.take m).length = m := by rw [List.length_take]; omega
  rw [drop_at hx] at ih
  rw [List.range_succ, List.filter_append, take_at hx]
  by_cases hin : x ∈ now
  ·rw [List.filter_cons_of_pos (by simpa using hin)] at ih
   have : ([m].filter λ i => lk now old[i]?) = [] := List.filter_cons_of_neg (by rw [hx]; simpa [lk] using hin)
   rw [this, List.append_nil, List.append_assoc]
   exact ih
  ·rw [List.filter_cons_of_neg (by simpa using hin)] at ih
   have : ([m].filter λ i => lk now old[i]?) = [m] := List.filter_cons_of_pos (by rw [hx]; simpa [lk] using hin)
   rw [this, List.reverse_append, List.reverse_singleton, List.singleton_append, List.map_cons, List.append_assoc, List.singleton_append]
   have he : elA old (m : Int) = x := by unfold elA; rw [Int.toNat_natCast, hx]; rfl
   refine ⟨.inr ⟨rfl, by show (0 : Int) <= (m : Int); omega, rfl, x, ?_, ?_, ?_⟩, ?_⟩
   ·show (old.take m ++ _)[((m : Nat) : Int).toNat]? = _
    rw [Int.toNat_natCast, List.getElem?_append_right (by omega), htl, Nat.sub_self]
    rfl
   ·show _ = (elA old (m : Int)).client; rw [he]
   ·show _ = (elA old (m : Int)).seq; rw [he]
   ·rw [app2 rfl]
    show PutsL (delL ((m : Nat) : Int).toNat _) _ _
    rw [Int.toNat_natCast]
    unfold delL
    rw [List.take_append_of_le_length (by omega), List.take_of_length_le (by omega)]
    have h2 : (old.take m ++ x :: (old.drop (m + 1)).filter λ x => decide (x ∈ now)).drop (m + 1) = (old.drop (m + 1)).filter λ x => decide (x ∈ now) := by
     rw [List.drop_append, htl, List.drop_of_length_le (by omega), show m + 1 - m = 1 by omega]
     rfl
    rw [h2]
    exact ih
theorem inss (old now : List Elm) : ∀ k m, m + k = now.length -> PutsL (now.take m ++ (now.drop m).filter λ x => decide (x ∈ old)) (((List.range' m k).filter λ i => lk old now[i]?).map λ (i : Nat) => iop now (i : Int)) now := by
 intro k
 induction k with
 | zero =>
  intro m hm
  show _ = _
  rw [List.take_of_length_le (by omega), List.drop_of_length_le (by omega)]
  simp
 | succ k ih =>
  intro m hm
  have ih := ih (m + 1) (by omega)
  have hx : now[m]? = some (now[m]'(by omega)) := List.getElem?_eq_getElem _
  generalize now[m]'(by omega) = x at hx
  have htl : (now.take m).length = m := by rw [List.length_take]; omega
  rw [List.range'_succ, drop_at hx]
  rw [take_at hx, List.append_assoc, List.singleton_append] at ih
  by_cases hin : x ∈ old
  ·rw [List.filter_cons_of_pos (by simpa using hin)]
   rw [List.filter_cons_of_neg (by rw [hx]; simpa [lk] using hin)]
   exact ih
  ·rw [List.filter_cons_of_neg (by simpa using hin)]
   rw [List.filter_cons_of_pos (by rw [hx]; simpa [lk] using hin), List.map_cons]
   have he : elA now (m : Int) = x := by unfold elA; rw [Int.toNat_natCast, hx]; rfl
   refine ⟨.inl ⟨rfl, by show (0 : Int) <= (m : Int); omega, ?_⟩, ?_⟩
   ·show (m : Int) <= _
    rw [List.length_append]; omega
   ·rw [app1 rfl]
    show PutsL (insL ((m : Nat) : Int).toNat (elA now (m : Int)) _) _ _
    rw [Int.toNat_natCast, he]
    unfold insL
    rw [List.take_append_of_le_length (by omega), List.take_of_length_le (by omega), List.drop_append, htl, List.drop_of_length_le (by omega), Nat.sub_self, List.drop_zero, List.nil_append, List.append_assoc, List.singleton_append]
    exact ih
theorem chg_puts {old now : List Elm} (h : CO old now) : PutsL old (chg old now) now := by
 have h1 := dels old now old.length (Nat.le_refl _)
 have h2 := inss old now now.length 0 (by omega)
 rw [List.take_length, List.drop_length, List.filter_nil, List.append_nil] at h1
 rw [List.take_zero, List.drop_zero, List.nil_append, <- List.range_eq_range'] at h2
 unfold chg pk pkN
 rw [<- List.map_reverse, List.map_map, List.map_map]
 refine PutsL.app h1 ?_
 unfold CO at h
 rw [h]
 exact h2
def mis (a b : List Elm) : Nat := a.countP λ x => decide (x ∉ b)
theorem pk_mis (a b : List Elm) : (pk a b).length = mis a b := by
 unfold pk pkN mis
 rw [List.length_map, <- List.countP_eq_length_filter]
 have h1 : (List.range a.length).map (λ i => a[i]?) = a.map some := by
  apply List.ext_getElem?
  intro i
  rw [List.getElem?_map, List.getElem?_map]
  by_cases h : i < a.length
  ·rw [List.getElem?_range h, List.getElem?_eq_getElem h]; simp [h]
  ·rw [List.getElem?_eq_none (by simpa using h), List.getElem?_eq_none (by omega)]; rfl
 have h2 : (List.range a.length).countP (λ i => lk b a[i]?) = ((List.range a.length).map λ i => a[i]?).countP (lk b) := by
  rw [List.countP_map]; rfl
 rw [h2, h1, List.countP_map]
 rfl
theorem chg_len (old now : List Elm) : (chg old now).length = mis old now + mis now old := by
 unfold chg
 rw [List.length_append, List.length_map, List.length_map, List.length_reverse, pk_mis, pk_mis]
theorem mis_snoc {a b : List Elm} {n : Nat} {x : Elm} (h : a[n]? = some x) : mis (a.take (n + 1)) b = mis (a.take n) b + if x ∈ b then 0 else 1 := by
 unfold mis
 rw [List.take_add_one, h, Option.toList_some, List.countP_append, List.countP_singleton]
 by_cases e : x ∈ b <;> simp [e]
end Go.Sl
set_option maxRecDepth 100000
namespace Go.Sl
open Go Go.Proofs
variable {G h : Heap} {L R : List Heap} {K : Value -> Heap -> Prop} {Kp : PK}
theorem lawPut {p : Option Addr} {l c : Nat} {d : List Elm} {o : Op} (hO : Own G h L) (hr : Rdl L eElm p l d) (hp : ∀ a, p = some a -> a.spot = none) (hlc : l <= c) (hsm : l <= 100000) (hf : PutOk d o)
  (hK : ∀ h' p' l' c' pc, Sli eElm p' l' c' (applyD d o) pc -> Own G h' (pc :: L) -> K (.tuple #[.slice p' l' c', .bool true]) h') : CallF Tryz.prog G 37 #[.slice p l c, opV o] K Kp h := by
 refine S37_ok ?_
 have hl := hr.len hO
 unfold S37
 refine newK.go hO ?_
 clear hO; intro r h hO
 refine Rng.go (by omega) ?_
 refine make_go tElm hO (by omega) (by omega) (by omega) λ h b pc hs hO => ?_
 refine ⟨_, _, _, rfl, ?_⟩
 simp only [Int.toNat_zero, List.replicate_zero] at hs
 simp only [Int.toNat_zero]
 have hrr := λ (X Y : Heap) => (hr.cons Y).cons X
 refine LdI.g hO ?_
 rcases hf with ⟨ek, hp0, hple⟩ | ⟨ek, hp0, hch, x, hx, hxc, hxs⟩
 ·have hap : applyD d o = d.take o.pos.toNat ++ [⟨o.ch, o.client, o.seq⟩] ++ d.drop o.pos.toNat := by unfold applyD; rw [ek]; rfl
  refine If.t (by rw [ek]; rfl) ?_
  refine LdI.go hO (by with_unfolding_all rfl) (If.dec (λ e => by omega) λ _ => LdI.g hO ?_)
  rw [decide_eq_false (by omega)]
  unfold S37_k1
  refine If.f rfl ?_
  refine LdI.go hO (by with_unfolding_all rfl) (Rq.go (by omega) ?_)
  refine append_go tElm tElm.ud hO (.refl _) hs ((hrr _ _).pre o.pos.toNat (by omega) _ _ hO) (by omega) λ h p1 c1 pc1 hs1 hO => ?_
  refine ⟨_, _, _, rfl, ?_⟩
  iterate 3 (refine LdI.g hO ?_)
  refine newK.go hO ?_
  clear hO; intro r2 h hO
  refine append1 tElm hO hs1 (y := ⟨o.ch, o.client, o.seq⟩) rfl (by omega) λ h p2 c2 pc2 hs2 hO => ?_
  refine ⟨_, _, _, rfl, LdI.go hO (by with_unfolding_all rfl) (Rq.go (by omega) ?_)⟩
  refine append_go tElm tElm.ud hO (.refl _) hs2 ((hrr _ _).cut eElm_ok hp o.pos.toNat (l - o.pos.toNat) (by omega) hlc _ _ hO) (by omega) λ h p3 c3 pc3 hs3 hO => ?_
  refine ⟨_, _, _, rfl, ?_⟩
  refine hK _ _ _ _ _ ?_ hO.drop2
  rw [hap]
  have ed : (d.drop o.pos.toNat).take (l - o.pos.toNat) = d.drop o.pos.toNat := List.take_of_length_le (by simp; omega)
  rw [ed] at hs3
  simpa using hs3
 ·have hple := (List.getElem?_eq_some_iff.1 hx).1
  have hap : applyD d o = d.take o.pos.toNat ++ d.drop (o.pos.toNat + 1) := by unfold applyD; rw [ek]; rfl
  refine If.f (by rw [ek]; rfl) (If.t (by rw [ek]; rfl) ?_)
  refine LdI.go hO (by with_unfolding_all rfl) (If.dec (λ e => by omega) λ _ => LdI.go hO (by with_unfolding_all rfl) (If.dec (λ e => by omega) λ _ => ?_))
  refine LdI.go hO (by with_unfolding_all rfl) (If.f (by rw [hch]; rfl) ?_)
  obtain ⟨y, hy, hn'⟩ := (hrr _ _).at eElm_ok hO (i := o.pos) hp0 (by omega)
  have : y = x := by rw [hx] at hy; cases hy; rfl
  subst this
  refine LdI.go hO (by with_unfolding_all rfl) (Rq.go (by omega) (hn' _ λ a _ hc => LdI.i (hc 1 _ rfl) ?_))
  refine LdI.go hO (by with_unfolding_all rfl) (If.f (by rw [hxc]; simp) ?_)
  refine LdI.go hO (by with_unfolding_all rfl) (Rq.go (by omega) (hn' _ λ a _ hc => LdI.i (hc 2 _ rfl) ?_))
  refine LdI.g hO ?_
  unfold S37_k2
  refine If.f (by rw [hxs]; simp) ?_
  refine LdI.go hO (by with_unfolding_all rfl) (Rq.go (by omega) ?_)
  refine append_go tElm tElm.ud hO (.refl _) hs ((hrr _ _).pre o.pos.toNat (by omega) _ _ hO) (by omega) λ h p1 c1 pc1 hs1 hO => ?_
  refine ⟨_, _, _, rfl, LdI.go hO (by with_unfolding_all rfl) (Rng.go (by omega) (Rq.go (by omega) ?_))⟩
  refine append_go tElm tElm.ud hO (.refl _) hs1 ((hrr _ _).cut eElm_ok hp (o.pos + 1).toNat (l - (o.pos + 1).toNat) (by omega) hlc _ _ hO) (by omega) λ h p3 c3 pc3 hs3 hO => ?_
  refine ⟨_, _, _, rfl, ?_⟩
  refine hK _ _ _ _ _ ?_ hO.drop2
  rw [hap]
  have ed : (d.drop (o.pos + 1).toNat).take (l - (o.pos + 1).toNat) = d.drop (o.pos.toNat + 1) := by
   rw [show (o.pos + 1).toNat = o.pos.toNat + 1 by omega]; exact List.take_of_length_le (by simp; omega)
  rw [ed] at hs3
  simpa using hs3
theorem lawMissing {qa qb : Option Addr} {la ka lb kb : Nat} {a b : List Elm} (hO : Own G h L) (hra : Rdl L eElm qa la a) (hrb : Rdl L eElm qb lb b) (hla : la <= 100000) (hlb : lb <= 100000)
  (hK : ∀ h', Own G h' L -> K (.int .i64 ((mis a b : Nat) : Int)) h') : CallF Tryz.prog G 36 #[.slice qa la ka, .slice qb lb kb] K Kp h := by
 refine S36_ok ?_
 unfold S36
 have hl := hra.len hO
 refine LoopS.go (λ vs h' => ∃ (n : Nat), n <= la /\ vs = [.int .i64 ((mis (a.take n) b : Nat) : Int), .int .i64 n] /\ Own G h' L) (λ vs _ => match vs with | [_, .int _ n] => (la - n).toNat | _ => 0) ⟨0, by omega, by simp [mis], hO⟩ ?_
 clear hO
 rintro jv vs h ⟨n, hn, rfl, hO⟩
 unfold S36_l3
 have hml : mis (a.take n) b <= n := by
  unfold mis
  exact Nat.le_trans List.countP_le_length (by simp; omega)
 refine ⟨_, _, rfl, If.dec (λ hlt => ?_) (λ hlt => ?_)⟩
 ·refine Rq.go ⟨by omega, hlt⟩ ?_
  obtain ⟨x, hx, hn'⟩ := hra.at eElm_ok hO (i := (n : Int)) (by omega) hlt
  have hx' : a[n]? = some x := by simpa using hx
  have hsn := mis_snoc (b := b) hx'
  refine hn' _ λ q _ hc => LdI.i (hc 0 _ rfl) (LdI.i (hc 1 _ rfl) (LdI.i (hc 2 _ rfl) ?_))
  refine lawPlace (x := x) hO hrb hlb λ h m hO h1 h2 => ⟨_, rfl, If.dec (λ hneg => ?_) (λ hneg => ?_)⟩
  ·unfold S36_k1
   rw [if_neg (h2 hneg).2] at hsn
   refine Rng.go (by omega) (Rng.go (by omega) ⟨⟨n + 1, by omega, by rw [hsn]; rfl, hO⟩, by simp only; omega⟩)
  ·unfold S36_k1
   rw [if_pos (List.mem_of_getElem? (h1 (by omega)).2)] at hsn
   refine Rng.go (by omega) ⟨⟨n + 1, by omega, by rw [hsn]; rfl, hO⟩, by simp only; omega⟩
 ·have hnl : n = a.length := by omega
  subst hnl
  unfold S36_k2
  rw [List.take_length]
  exact hK _ hO
theorem lawSame {qa qb : Option Addr} {la ka lb kb : Nat} {a : List Elm} (hO : Own G h L) (hra : Rdl L eElm qa la a) (hrb : Rdl L eElm qb lb a) (hla : la <= 100000)
  (hK : ∀ h', Own G h' L -> K (.bool true) h') : CallF Tryz.prog G 38 #[.slice qa la ka, .slice qb lb kb] K Kp h := by
 refine S38_ok ?_
 unfold S38
 have hl := hra.len hO
 have hl2 := hrb.len hO
 refine If.f (by simp; omega) ?_
 refine LoopS.go (λ vs h' => ∃ (n : Nat), n <= la /\ vs = [.int .i64 n] /\ Own G h' L) (λ vs _ => match vs with | [.int _ n] => (la - n).toNat | _ => 0) ⟨0, by omega, rfl, hO⟩ ?_
 clear hO
 rintro jv vs h ⟨n, hn, rfl, hO⟩
 unfold S38_l4
 refine ⟨_, rfl, If.dec (λ hlt => ?_) (λ hlt => ?_)⟩
 ·refine Rq.go ⟨by omega, hlt⟩ ?_
  obtain ⟨x, hx, hn1⟩ := hra.at eElm_ok hO (i := (n : Int)) (by omega) hlt
  obtain ⟨y, hy, hn2⟩ := hrb.at eElm_ok hO (i := (n : Int)) (by omega) (by omega)
  have : y = x := by rw [hx] at hy; cases hy; rfl
  subst this
  refine hn1 _ λ q _ hc => LdI.i (hc 0 _ rfl) (LdI.i (hc 1 _ rfl) (LdI.i (hc 2 _ rfl) (Rq.go (by omega) ?_)))
  refine hn2 _ λ q _ hc => LdI.i (hc 0 _ rfl) (LdI.i (hc 1 _ rfl) (LdI.i (hc 2 _ rfl) ?_))
  refine If.f (by simp) (Rng.go (by omega) ⟨⟨n + 1, by omega, rfl, hO⟩, by simp only; omega⟩)
 ·unfold S38_k1
  exact hK _ hO
end Go.Sl
set_option maxRecDepth 100000
namespace Go.Sl
open Go Go.Proofs
variable {G h : Heap} {L R : List Heap} {K : Value -> Heap -> Prop} {Kp : PK}
theorem puts_drop {ops : List Op} {n : Nat} {o : Op} {d d' : List Elm} (ho : ops[n]? = some o) (h : PutsL d (ops.drop n) d') : PutOk d o /\ PutsL (applyD d o) (ops.drop (n + 1)) d' := by
 obtain ⟨h1, h2⟩ := List.getElem?_eq_some_iff.1 ho
 rw [List.drop_eq_getElem_cons h1, h2] at h
 exact h
theorem put_len {d : List Elm} {o : Op} (h : PutOk d o) : (applyD d o).length <= d.length + 1 := by
 rcases h with ⟨ek, h0, h1⟩ | ⟨ek, h0, _, x, hx, _⟩
 ·rw [app1 ek, insL_len (by omega)]
  omega
 ·rw [app2 ek, delL_len (List.getElem?_eq_some_iff.1 hx).1]; omega
theorem mis_le (a b : List Elm) : mis a b <= a.length := List.countP_le_length
theorem docAt {p : Option Addr} {s : Ru} {c : Heap} {r : Nat} {d dc1 : Option Addr} {dc3 : Nat} {dn1 : Option Addr} {dn3 : Nat} {en rv : Hdr} {hds : List Hdr} (v : RView p s c r d dc1 dc3 dn1 dn3 en rv hds) {k : Nat} {y : Hdr}
  (hyc : ∀ {G h : Heap} {L : List Heap}, Own G h L -> c ∈ L -> ∀ K, (∀ a, dc1 = some a -> hcell (rd G h) (a.add (k * 1)) = some (.slice y.1 y.2.1 y.2.2) -> K a) -> NN dc1 K) {a : Addr} (ha : dc1 = some a) {G h : Heap} {L : List Heap} (hO : Own G h L) (hc : c ∈ L) : hcell (rd G h) (a.add (k * 1)) = some (.slice y.1 y.2.1 y.2.2) := by
 have := hyc hO hc (λ a => hcell (rd G h) (a.add (k * 1)) = some (.slice y.1 y.2.1 y.2.2)) λ _ _ h => h
 rw [ha] at this
 exact this
theorem lawTurns {p p2 : Option Addr} {s : Ru} {c1 c2 : Heap} {r : Nat} {d dc1 : Option Addr} {dc3 : Nat} {dn1 : Option Addr} {dn3 : Nat} {en rv : Hdr} {hds : List Hdr} (v : RView p s c1 r d dc1 dc3 dn1 dn3 en rv hds) (hpq : PastP p2 s.bk (psOf s.bk.done) c2) (hde : s.bk.done.length = s.bk.edits.length) (hed : s.bk.edits.length <= 4000) (hfit : Fit s.bk.done) (hf : FitL [] s.bk.done) (hu : Apt s.bk.done)
  {G h : Heap} {L R : List Heap} (hO : Own G h L) (hc : c1 ∈ L) [t : Take L c2 R] {j k : Nat} (hj : j <= s.bk.done.length) (hk : k <= s.bk.done.length) {da : Option Addr} {dl dk : Nat} (hda : Rdl L eElm da dl (replayD (s.bk.done.take j))) (hfl : dl <= dk /\ ∀ a, da = some a -> a.spot = none) {K : Value -> Heap -> Prop} {Kp : PK}
  (hK : ∀ h', Own G h' L -> K (.bool true) h') : CallF Tryz.prog G 25 #[.pointer p, .pointer p2, .int .i64 (j : Int), .int .i64 (k : Int), .slice da dl dk] K Kp h := by
 obtain rfl := v.hp
 refine S25_ok ?_
 unfold S25
 have hnd : ∀ k, k <= s.bk.done.length -> (replayD (s.bk.done.take k)).Nodup := λ k hk => (texts_ok hf hu k hk).1
 have hbn : ∀ k, k <= s.bk.done.length -> ∀ x ∈ replayD (s.bk.done.take k), ((psOf s.bk.done).born x).isSome := λ k hk x hx => by
  obtain ⟨n, hn, hin⟩ := (texts_ok hf hu k hk).2 x hx
  have hb := (born_ok hf hu x s.bk.done.length (Nat.le_refl _)).2 n (by omega) hin
  rw [List.take_length] at hb
  rw [hb]; rfl
 have hco : CO (replayD (s.bk.done.take j)) (replayD (s.bk.done.take k)) := by
  rcases Nat.le_total j k with h | h
  ·exact texts_co hf hu k h hk
  ·exact (texts_co hf hu j h hj).symm
 have hjl := replayD_len s.bk.done j
 have hkl := replayD_len s.bk.done k
 refine revChanges hO hpq hde hed hfit hnd hbn (λ _ _ h q l kk co hs hO => ⟨_, _, _, _, rfl, ?_⟩) (λ e => absurd ⟨⟨by omega, by omega⟩, by omega, by omega⟩ e)
 rw [Int.toNat_natCast, Int.toNat_natCast] at hs
 have hputs := chg_puts hco
 have hlen := chg_len (replayD (s.bk.done.take j)) (replayD (s.bk.done.take k))
 have hm1 := mis_le (replayD (s.bk.done.take j)) (replayD (s.bk.done.take k))
 have hm2 := mis_le (replayD (s.bk.done.take k)) (replayD (s.bk.done.take j))
 have hol := hs.len
 generalize chg (replayD (s.bk.done.take j)) (replayD (s.bk.done.take k)) = ops at hs hputs hlen hol
 obtain ⟨yj, hjy, hjd, hjf, hjc⟩ := v.docF hj hO (List.mem_cons_of_mem _ hc)
 obtain ⟨yk, hky, hkd, hkf, hkc⟩ := v.docF hk hO (List.mem_cons_of_mem _ hc)
 refine lawNum ⟨_, rfl, If.f rfl (NN.go (LdSl.i (v.docs hO (List.mem_cons_of_mem _ hc)) (Rq.go (by omega) ?_)))⟩
 rw [Int.toNat_natCast, Int.toNat_natCast]
 refine hjc hO (List.mem_cons_of_mem _ hc) _ λ a1 ha1 hce => LdSl.i hce (NN.go (LdSl.i (v.docs hO (List.mem_cons_of_mem _ hc)) (Rq.go (by omega) ?_)))
 refine hkc hO (List.mem_cons_of_mem _ hc) _ λ a2 ha2 hce => LdSl.i hce (NN.go (LdSl.i (v.docs hO (List.mem_cons_of_mem _ hc)) (Rq.go (by omega) ?_)))
 refine hkc hO (List.mem_cons_of_mem _ hc) _ λ a3 ha3 hce => LdSl.i hce (NN.go (LdSl.i (v.docs hO (List.mem_cons_of_mem _ hc)) (Rq.go (by omega) ?_)))
 refine hjc hO (List.mem_cons_of_mem _ hc) _ λ a4 ha4 hce => LdSl.i hce ?_
 refine lawMissing hO (hjd (List.mem_cons_of_mem _ hc)) (hkd (List.mem_cons_of_mem _ hc)) (by omega) (by omega) λ h hO => ⟨_, rfl, ?_⟩
 refine ⟨docAt v hjc ha4 hO (List.mem_cons_of_mem _ hc), v.docs hO (List.mem_cons_of_mem _ hc), docAt v hkc ha3 hO (List.mem_cons_of_mem _ hc), v.docs hO (List.mem_cons_of_mem _ hc), ?_⟩
 refine lawMissing hO (hkd (List.mem_cons_of_mem _ hc)) (hjd (List.mem_cons_of_mem _ hc)) (by omega) (by omega) λ h hO => ⟨_, rfl, Rng.go (by omega) ?_⟩
 unfold S25_k1
 refine If.f (by simp; omega) ?_
 refine LoopS.go (λ vs h' => ∃ (n : Nat) (q' : Option Addr) (l' k' : Nat) (cur : List Elm) (cc : Heap), n <= ops.length /\ vs = [.slice q' l' k', .int .i64 n] /\ Rdl (cc :: co :: L) eElm q' l' cur /\ (l' <= k' /\ ∀ a, q' = some a -> a.spot = none) /\ cur.length <= 4000 + n /\ PutsL cur (ops.drop n) (replayD (s.bk.done.take k)) /\ Own G h' (cc :: co :: L)) (λ vs _ => match vs with | [_, .int _ n] => (ops.length - n).toNat | _ => 0)
  ⟨0, da, dl, dk, _, emp, by omega, rfl, (hda.cons _).cons _, hfl, by omega, by simpa using hputs, hO.addEmp0⟩ ?_
 clear hO
 rintro jv vs h ⟨n, q', l', k', cur, cc, hn, rfl, hr, hfl', hcl, hpt, hO⟩
 have hl' := hr.len hO
 unfold S25_l5
 refine ⟨_, _, _, _, rfl, If.dec (λ hlt => ?_) (λ hlt => ?_)⟩
 ·refine Rq.go ⟨by omega, hlt⟩ ?_
  obtain ⟨o, ho, hn'⟩ := (hs.rdl (L := cc :: co :: L) (by simp)).at eOp_ok hO (i := (n : Int)) (by omega) hlt
  have ho' : ops[n]? = some o := by simpa using ho
  obtain ⟨hpo, hpt'⟩ := puts_drop ho' hpt
  have hpl := put_len hpo
  refine hn' _ λ a _ hc => LdI.i (hc 0 _ rfl) (LdI.i (hc 1 _ rfl) (LdI.i (hc 2 _ rfl) (LdI.i (hc 3 _ rfl) (LdI.i (hc 4 _ rfl) ?_))))
  refine lawPut (o := o) hO hr hfl'.2 hfl'.1 (by omega) hpo λ h q2 l2 k2 pc hs2 hO => ⟨_, _, _, _, rfl, If.f rfl (Rng.go (by omega) ?_)⟩
  exact ⟨⟨n + 1, q2, l2, k2, _, pc, by omega, rfl, hs2.rdl (by simp), ⟨hs2.cap, hs2.flat⟩, by omega, hpt', hO.drop2⟩, by simp only; omega⟩
 ·have hnl : n = ops.length := by omega
  subst hnl
  rw [List.drop_length] at hpt
  have hpt : cur = replayD (s.bk.done.take k) := hpt
  subst hpt
  unfold S25_k2
  refine NN.go (LdSl.i (v.docs hO (List.mem_cons_of_mem _ (List.mem_cons_of_mem _ hc))) (Rq.go (by omega) ?_))
  rw [Int.toNat_natCast]
  refine hkc hO (List.mem_cons_of_mem _ (List.mem_cons_of_mem _ hc)) _ λ a5 _ hce => LdSl.i hce ?_
  exact lawSame hO hr (hkd (List.mem_cons_of_mem _ (List.mem_cons_of_mem _ hc))) (by omega) λ h hO => ⟨_, rfl, hK _ hO.drop1.drop1⟩
theorem lawRevChanges {pa : Option Addr} {l c : Nat} {xs : List Pl4} {q1 q2 q3 : Int} (hT : Gt G) (hg : Gl G) (hw : Gw G) (hO : Own G h L) (hr : RdA G ePl pa l xs) (hsm : l <= 9223372036854775807)
  (hK : ∀ h', Own G h' L -> K (.bool true) h') :
  CallF Tryz.prog G 8 #[.agg #[.slice pa l c, .int .i64 q1, .int .i64 q2, .int .i64 q3]] K Kp h := by
 refine S8_ok ?_
 unfold S8
 refine newK.go hO ?_
 clear hO; intro r7 h hO
 (repeat (with_reducible first | refine NN.go ?_ | refine LdI.g hO ?_ | refine LdSl.g hO ?_ | refine LdP.g hO ?_ | refine LdM.g hO ?_ | refine LdB.g hO ?_ | refine cell_g hO ?_ | refine Rq.go (by omega) ?_ | refine Rng.go (by omega) ?_ | (refine st1.g hO ?_; clear hO; intro h hO; dsimp only [ad, List.set] at hO)))
 refine lawRan rinvs hT hg hw hO hr hsm λ h p p2 s c1 c2 hs hq hp2 hpq hO => ⟨_, _, _, rfl, If.f rfl ?_⟩
 have hde := rinvs.de s hs
 have hed := rinvs.ed s hs
 have hfit := rinvs.fit s hs
 have hf := hs.b.fitl
 have hu := hs.b.apt
 have hN : s.bk.done.length <= 4000 := by omega
 obtain ⟨r, d, dc1, dc3, dn1, dn3, en, rv, hds, v⟩ := hq.view
 obtain rfl := v.hp
 have cells : ∀ {h : Heap}, Own G h (c2 :: c1 :: single r7 (.cells #[.slice pa l c, .int .i64 q1, .int .i64 q2, .int .i64 q3] 72 (0, 0)) :: L) -> hcell (rd G h) ⟨r7, 1, none⟩ = some (.int .i64 q1) /\ hcell (rd G h) ⟨r7, 2, none⟩ = some (.int .i64 q2) /\ hcell (rd G h) ⟨r7, 3, none⟩ = some (.int .i64 q3) := λ {h} hO =>
  ⟨hcell_own hO inferInstance (by with_unfolding_all rfl), hcell_own hO inferInstance (by with_unfolding_all rfl), hcell_own hO inferInstance (by with_unfolding_all rfl)⟩
 refine NN.go (LdSl.i (v.docs hO (by simp)) (LdI.i (cells hO).1 (LdI.i (cells hO).2.1 (LdI.i (cells hO).2.2 ?_))))
 refine lawRest (by omega) λ n1 h1 => ⟨_, rfl, (cells hO).2.2, (cells hO).2.1, ?_⟩
 refine lawRest (by omega) λ n2 h2 => ⟨_, rfl, (cells hO).2.2, ?_⟩
 refine lawRest (by omega) λ n3 h3 => ⟨_, rfl, ?_⟩
 obtain ⟨a, rfl⟩ : ∃ k : Nat, n1 = k := ⟨n1.toNat, by omega⟩
 obtain ⟨b, rfl⟩ : ∃ k : Nat, n2 = k := ⟨n2.toNat, by omega⟩
 obtain ⟨g, rfl⟩ : ∃ k : Nat, n3 = k := ⟨n3.toNat, by omega⟩
 have ha : a <= s.bk.done.length := by omega
 have hb : b <= s.bk.done.length := by omega
 have hg' : g <= s.bk.done.length := by omega
 obtain ⟨ya, hay, had, haf, hac⟩ := v.docF ha hO (by simp)
 obtain ⟨yb, hby, hbd, hbf, hbc⟩ := v.docF hb hO (by simp)
 refine NN.go (LdSl.i (v.docs hO (by simp)) (Rq.go (by omega) ?_))
 rw [Int.toNat_natCast, Int.toNat_natCast]
 refine hac hO (by simp) _ λ a1 _ hce => LdSl.i hce ?_
 refine lawTurns v hpq hde hed hfit hf hu hO (by simp) ha hb (had (by simp)) haf λ h hO => ⟨_, rfl, If.f rfl ?_⟩
 refine NN.go (LdSl.i (v.docs hO (by simp)) (Rq.go (by omega) ?_))
 refine hbc hO (by simp) _ λ a1 _ hce => LdSl.i hce ?_
 refine lawTurns v hpq hde hed hfit hf hu hO (by simp) hb hg' (hbd (by simp)) hbf λ h hO => ⟨_, rfl, If.f rfl ?_⟩
 refine NN.go (LdSl.i (v.docs hO (by simp)) (Rq.go (by omega) ?_))
 refine hac hO (by simp) _ λ a1 _ hce => LdSl.i hce ?_
 refine lawTurns v hpq hde hed hfit hf hu hO (by simp) ha hg' (had (by simp)) haf λ h hO => ⟨_, rfl, ?_⟩
 unfold S8_k1
 refine If.f rfl ?_
 have hnd : ∀ k, k <= s.bk.done.length -> (replayD (s.bk.done.take k)).Nodup := λ k hk => (texts_ok hf hu k hk).1
 have hbn : ∀ k, k <= s.bk.done.length -> ∀ x ∈ replayD (s.bk.done.take k), ((psOf s.bk.done).born x).isSome := λ k hk x hx => by
  obtain ⟨n, hn, hin⟩ := (texts_ok hf hu k hk).2 x hx
  have hb := (born_ok hf hu x s.bk.done.length (Nat.le_refl _)).2 n (by omega) hin
  rw [List.take_length] at hb
  rw [hb]; rfl
 refine revChanges hO hpq hde hed hfit hnd hbn (λ e1 e2 => by omega) λ _ h hO => ⟨_, _, _, _, rfl, ?_⟩
 refine revChanges hO hpq hde hed hfit hnd hbn (λ e1 e2 => by omega) λ _ h hO => ⟨_, _, _, _, rfl, ?_⟩
 refine lawNum ⟨_, rfl, If.t rfl ?_⟩
 refine lawNum ⟨_, rfl, ?_⟩
 unfold S8_k2
 exact hK _ hO.drop1.drop1.drop1
end Go.Sl
set_option maxRecDepth 100000
namespace Go.Sl
open Go Go.Proofs
variable {G h : Heap} {L R : List Heap} {K : Value -> Heap -> Prop} {Kp : PK}
def Wh (W : World) : Heap := λ n => W.heap[n]?
theorem hcell_Wh (W : World) (a : Addr) : hcell (Wh W) a = W.cell? a := by
 unfold hcell Wh World.cell?
 cases W.heap[a.block]? with
 | none => rfl
 | some o => cases o <;> rfl
theorem fr_Wh (W : World) : Fr (Wh W) W emp ⟨emp, W.os, W.output⟩ :=
 ⟨λ _ => .inl rfl, λ n o h => (by cases h), λ n o h => (by cases h), λ n o h => ⟨h, rfl⟩, rfl, rfl⟩
theorem own_Wh (W : World) : Own (Wh W) emp [] := ⟨λ _ => .inl rfl, .nil, λ c hc => by cases hc⟩
theorem cell_Wh {W : World} {h : Heap} {L : List Heap} (hO : Own (Wh W) h L) {a : Addr} {v : Value} (hc : W.cell? a = some v) : hcell (rd (Wh W) h) a = some v := by
 have h1 : hcell (Wh W) a = some v := by rw [hcell_Wh]; exact hc
 unfold hcell at h1 ⊢
 obtain ⟨o, ho, hv⟩ := Option.bind_eq_some_iff.1 h1
 have h2 : rd (Wh W) h a.block = some o := by
  unfold rd
  rw [(hO.g a.block).resolve_right (by rw [ho]; simp)]
  exact ho
 rw [h2]; exact hv
theorem rdA_Wh {α : Type} {e : En α} {W : World} {a : Addr} {l : Nat} {xs : List α} (hl : l = xs.length) (h : ∀ i v, (e.F xs)[i]? = some v -> W.cell? (a.add i) = some v) : RdA (Wh W) e (some a) l xs :=
 λ _ _ hO => ⟨hl, λ i v hv => cell_Wh hO (h i v hv)⟩
theorem rdA_nil {α : Type} {e : En α} {W : World} : RdA (Wh W) e none 0 ([] : List α) := λ _ _ _ => ⟨rfl, rfl⟩
theorem callSl_inv {P : Program} {G : Heap} {f : FuncId} {fn : Func} {args : Array Value} {h : Heap} (hf : P.funcs[f]? = some fn) (hb : fn.body.isNone = false)
  (hn : (fn.name == "runtime.NumGoroutine") = false) (hh : CallF P G f args K Kp h) : CallSl P G f args K Kp h := by
 have hh := hh.run
 unfold slN callFunc at hh
 have e : ∀ (k : Program -> Sem Next) (K : Next -> Heap -> Prop) (Kp : Value -> Heap -> Prop), sl P G ((program : Sem Program) >>= k) K Kp h -> sl P G (k P) K Kp h := λ k K Kp h => h
 have h2 := e _ _ _ hh
 simp only [hf, hn, hb, Bool.false_eq_true, if_false] at h2
 exact h2
theorem call_world {P : Program} {f : FuncId} {fn : Func} {args : Array Value} {W : World} {r : Value} (hf : P.funcs[f]? = some fn) (hb : fn.body.isNone = false) (hn : (fn.name == "runtime.NumGoroutine") = false)
  (hh : CallF P (Wh W) f args (λ v _ => v = r) (λ _ _ => False) emp) :
  Calls P f args W λ e W' => e = .returned r /\ ∃ W'', W'.Alike W'' /\ RowKit.Below W.heap.size W W'' := by
 refine (callSl_inv hf hb hn hh W _ (fr_Wh W)).mono λ e W' he => ?_
 cases e with
 | outgrown => exact he.elim
 | panicked c => obtain ⟨_, h, _⟩ := he; exact h.elim
 | returned v =>
  obtain ⟨h', rfl, fr⟩ := he
  have hold : ∀ k o, W.heap[k]? = some o -> W'.heap[k]? = some o := λ k o ho => (fr.glob k o ho).1
  refine ⟨rfl, { W with heap := W'.heap }, ⟨rfl, fr.same.1, fr.same.2⟩, rfl, rfl, rfl, ?_, λ k hk => ?_⟩
  ·show W.heap.size <= W'.heap.size
   rcases Nat.eq_zero_or_pos W.heap.size with h0 | h0
   ·omega
   ·have := hold (W.heap.size - 1) _ (Array.getElem?_eq_getElem (by omega))
    have := (Array.getElem?_eq_some_iff.1 this).1
    omega
  ·have := hold k _ (Array.getElem?_eq_getElem hk)
   show W'.heap[k]? = W.heap[k]?
   rw [this, Array.getElem?_eq_getElem hk]
theorem slice_ofc {H : Type} {enc : TypeId × Value -> H} {P : Program} {W : World} {α : Type} {e : En α} {t eT : TypeId} {v : Value} {y0 : DataW H × List MemPlace} {fuel : Nat} (ok : e.Ok) (ht : P.underlying t = some (.slice eT)) (hc : P.cellsOf eT = e.m)
  (hel : ∀ n cs y, DataW.trod enc P W 0 (λ _ => true) true n eT cs = some y -> ∃ x, cs = e.E x) (h : DataW.trod enc P W 0 (λ _ => true) true fuel t [v] = some y0) :
  ∃ pa l c xs, v = .slice pa l c /\ RdA (Wh W) e pa l xs /\ l <= 9223372036854775807 := by
 rcases DataW.trod_slice ht h with ⟨h1, _⟩ | ⟨a, len, cap, elems, rest, n, _, h1, _, _, hl, hcap, hlen, hE, _⟩
 ·cases h1
  exact ⟨none, 0, 0, [], rfl, rdA_nil, by omega⟩
 ·cases h1
  have hx : ∀ i, ∃ x, i < len -> ∀ j v, (e.E x)[j]? = some v -> W.cell? (a.add (i * e.m + j)) = some v := λ i => by
   by_cases hi : i < len
   ·have h2 := hE i hi
    have h3 : elems[i]? = some (elems[i]'(by omega)) := List.getElem?_eq_getElem _
    rw [h3] at h2
    obtain ⟨cs, h4, h5⟩ := Option.bind_eq_some_iff.1 h2
    obtain ⟨x, rfl⟩ := hel _ _ _ h5
    refine ⟨x, λ _ j v hj => ?_⟩
    have hjm : j < e.m := by rw [<- ok.hm x]; exact (List.getElem?_eq_some_iff.1 hj).1
    rw [hc] at h4
    have h6 := (World.cells?_some h4).2.2 j hjm
    have hadd : (a.add (i * e.m)).add j = a.add (i * e.m + j) := by
     unfold Addr.add
     by_cases h1 : i * e.m = 0
     ·simp [h1]
     ·by_cases h2 : j = 0
      ·simp [h1, h2]
      ·simp [h1, h2, Nat.add_assoc]
    rw [<- hadd, h6]; exact hj
   ·exact ⟨e.z, λ h => absurd h hi⟩
  obtain ⟨f, hf⟩ := Classical.skolem.1 hx
  refine ⟨some a, len, cap, (List.range len).map f, rfl, rdA_Wh (by simp) λ i v hv => ?_, by unfold maxLen at hcap; omega⟩
  have hpos := ok.pos
  have hlt : i < (e.F ((List.range len).map f)).length := (List.getElem?_eq_some_iff.1 hv).1
  rw [En.F_len ok, List.length_map, List.length_range] at hlt
  have hi : i / e.m < len := Nat.div_lt_of_lt_mul (by rw [Nat.mul_comm]; exact hlt)
  have hj : i % e.m < e.m := Nat.mod_lt _ hpos
  have hdm : i / e.m * e.m + i % e.m = i := by rw [Nat.mul_comm]; exact Nat.div_add_mod i e.m
  rw [<- hdm]
  refine hf (i / e.m) hi (i % e.m) v ?_
  rw [<- hdm, En.F_get ok (i := i / e.m) (x := f (i / e.m)) (by rw [List.getElem?_map, List.getElem?_range hi]; rfl) hj] at hv
  exact hv
end Go.Sl
