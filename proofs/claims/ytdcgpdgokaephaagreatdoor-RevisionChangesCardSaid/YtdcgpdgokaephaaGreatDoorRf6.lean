/- P18.7: the changes turn the one text into the other. Part 6 of 12. -/
import Derived.Test.YtdcgpdgokaephaaGreatDoorRf5
set_option linter.unusedVariables false
set_option linter.unusedSimpArgs false
set_option linter.unusedSectionVars false
set_option maxRecDepth 100000
namespace Go.Sl
open Go Go.Proofs
variable {G h : Heap} {L R : List Heap} {K : Value -> Heap -> Prop} {Kp : PK}
theorem slCell {G : Heap} {g : Nat} {hs : List (Option Addr × Nat × Nat)} {t : TypeId} {z : Nat × Nat} (hg : G g = some (.cells (eSl.F hs).toArray t z)) {i : Nat} {hd : Option Addr × Nat × Nat} (hx : hs[i]? = some hd) : ∀ L h, Own G h L -> hcell (rd G h) ((⟨g, 0, none⟩ : Addr).add (i * 1)) = some (.slice hd.1 hd.2.1 hd.2.2) := λ L h hO => by
 rw [add_mk]
 refine glob_cell hO hg ?_
 simp only [ocell, Option.isSome_none, Bool.false_eq_true, if_false, List.getElem?_toArray]
 have := En.F_get eSl_ok hx (j := 0) (by decide)
 rw [show (0 : Nat) + i * 1 = i * eSl.m + 0 by simp [eSl], this]; rfl
theorem itemShape {G : Heap} (hw : Gw G) {k : Nat} {s : List Int} (hk : itemShapesL[k]? = some s) : ∃ p l c, (∀ L h, Own G h L -> hcell (rd G h) ((⟨0, 0, none⟩ : Addr).add (k * 1)) = some (.slice p l c)) /\ RdA G eI p l s := by
 obtain ⟨hs, t, z, hg, hlen, hall⟩ := hw.items
 have hk3 : k < 3 := (List.getElem?_eq_some_iff.1 hk).1
 have hx : hs[k]? = some (hs[k]'(by omega)) := List.getElem?_eq_getElem (by omega)
 exact ⟨_, _, _, slCell hg hx, hall k _ s hx hk⟩
theorem msgShape {G : Heap} (hw : Gw G) {k : Nat} {s : List Int} (hk : shapesL[k]? = some s) : ∃ p l c, (∀ L h, Own G h L -> hcell (rd G h) ((⟨3, 0, none⟩ : Addr).add (k * 1)) = some (.slice p l c)) /\ RdA G eI p l s := by
 obtain ⟨hs, t, z, hg, hlen, hall⟩ := hw.shapes
 have hk3 : k < 7 := (List.getElem?_eq_some_iff.1 hk).1
 have hx : hs[k]? = some (hs[k]'(by omega)) := List.getElem?_eq_getElem (by omega)
 exact ⟨_, _, _, slCell hg hx, hall k _ s hx hk⟩
theorem fieldCell (hO : Own G h L) (hw : Gw G) {i : Nat} {f : Int} (hf : itemFieldsL[i]? = some f) : hcell (rd G h) ⟨1, i, none⟩ = some (.int .i64 f) := by
 obtain ⟨t, z, hg⟩ := hw.fields
 refine glob_cell hO hg ?_
 simp only [ocell, Option.isSome_none, Bool.false_eq_true, if_false, List.getElem?_toArray]
 have := En.F_get eI_ok hf (j := 0) (by decide)
 rw [show i = i * eI.m + 0 by simp [eI], this]; rfl
def okV (v shape : List Int) (m : Int) (f : Int) : Bool := bif shape.contains f then mayB f v m else v.getD f.toNat 0 == 0
theorem encItemLoop {b : Nat} {v shape : List Int} {p : Option Addr} {l c : Nat} (hO : Own G h L) (hw : Gw G) (hr : Rdl L eI (some ⟨b, 0, none⟩) 14 v) (hs : RdA G eI p l shape) (hsm : shape.length <= 100) (hf : ∀ f ∈ shape, 0 <= f /\ f < 14) (hv : ∀ f : Nat, 0 <= v.getD f 0 /\ v.getD f 0 < 65536)
  (hok : ∀ f ∈ itemFieldsL, okV v shape 0 f = true)
  (hK : ∀ h' b' n pc, Sli eU8 (some ⟨b', 0, none⟩) n n (layB v shape) pc -> Own G h' (pc :: L) -> K (.tuple #[.slice (some ⟨b', 0, none⟩) n n, .nilIface]) h') :
  S70_k2 G K Kp p l c ⟨b, 0, none⟩ h := by
 unfold S70_k2
 refine LdI.i (fieldCell hO hw (i := 0) rfl) (LdI.i (fieldCell hO hw (i := 1) rfl) (LdI.i (fieldCell hO hw (i := 2) rfl) (LdI.i (fieldCell hO hw (i := 3) rfl) (LdI.i (fieldCell hO hw (i := 4) rfl) (LdI.i (fieldCell hO hw (i := 5) rfl) (LdI.i (fieldCell hO hw (i := 6) rfl) ?_))))))
 refine LoopS.go (λ vs h' => h' = h /\ ∃ n : Nat, n <= 7 /\ vs = [.int .i64 n]) (λ vs _ => match vs with | [.int _ n] => (7 - n).toNat | _ => 0) ⟨rfl, 0, by omega, rfl⟩ ?_
 rintro jv vs h' ⟨rfl, n, hn, rfl⟩
 unfold S70_l5
 refine ⟨_, rfl, If.dec (λ hlt => ?_) (λ hlt => ?_)⟩
 ·refine Rq.go (by omega) ?_
  have hfx : ∃ f : Int, f ∈ itemFieldsL /\ (0 <= f /\ f < 14) /\ ([.int .i64 1, .int .i64 8, .int .i64 9, .int .i64 10, .int .i64 11, .int .i64 12, .int .i64 13] : List Value)[Int.toNat (n : Int) * 1]? = some (.int .i64 f) := by
   have : n = 0 ∨ n = 1 ∨ n = 2 ∨ n = 3 ∨ n = 4 ∨ n = 5 ∨ n = 6 := by omega
   rcases this with h | h | h | h | h | h | h <;> subst h
   ·exact ⟨1, by decide, by decide, rfl⟩
   ·exact ⟨8, by decide, by decide, rfl⟩
   ·exact ⟨9, by decide, by decide, rfl⟩
   ·exact ⟨10, by decide, by decide, rfl⟩
   ·exact ⟨11, by decide, by decide, rfl⟩
   ·exact ⟨12, by decide, by decide, rfl⟩
   ·exact ⟨13, by decide, by decide, rfl⟩
  obtain ⟨f, hmem, hfr, hget⟩ := hfx
  refine ⟨f, hget, ?_⟩
  have hof := hok f hmem
  have hfin : S70_k3 G K Kp n (λ vs' h'' => ((h'' = h' /\ ∃ n : Nat, n <= 7 /\ vs' = [.int .i64 n]) /\ (match vs' with | [.int _ n] => (7 - n).toNat | _ => 0) < (match [Value.int .i64 (n : Int)] with | [.int _ n] => (7 - n).toNat | _ => 0))) false h' := by
   unfold S70_k3
   exact If.f rfl (Rng.go (by omega) ⟨⟨rfl, n + 1, by omega, rfl⟩, by simp only; omega⟩)
  refine wireNamed hO hs hsm ⟨_, rfl, If.mk (λ e => ?_) (λ e => ?_)⟩
  ·unfold okV at hof
   rw [e, cond_true] at hof
   refine wireMay hO hr hfr ⟨_, rfl, If.f (by rw [hof]; rfl) (wireNamed hO hs hsm ⟨_, rfl, If.f (by rw [e]; rfl) hfin⟩)⟩
  ·unfold okV at hof
   rw [e, cond_false] at hof
   refine wireNamed hO hs hsm ⟨_, rfl, If.t (by rw [e]; rfl) (Rq.go hfr (LdI.i (n := v.getD f.toNat 0) ?_ ?_))⟩
   ·have := vget hO hr (i := f.toNat) (by omega)
    rw [add_mk, Nat.mul_one]; exact this
   ·have : (v.getD f.toNat 0 != 0) = false := by
     have h0 : v.getD f.toNat 0 = 0 := by simpa using hof
     rw [h0]; rfl
    rw [this]; exact hfin
 ·unfold S70_k4
  refine wireLay hO hw hr hs hsm hf hv λ h' b' n pc hsl hO => ?_
  exact ⟨_, _, _, rfl, hK _ _ _ _ hsl hO⟩
end Go.Sl
set_option maxRecDepth 100000
namespace Go.Sl
open Go Go.Proofs
variable {G h : Heap} {L R : List Heap} {K : Value -> Heap -> Prop} {Kp : PK}
def itemV (k ep tag : Int) (o : Op) : List Int := [k, ep, 0, 0, 0, 0, 0, 0, tag, o.kind, o.pos, o.ch, o.client, o.seq]
theorem wireEncodeItem {k : Nat} {ep tag : Int} {o : Op} {shape : List Int} (hO : Own G h L) (hw : Gw G) (hk : 1 <= k /\ k <= 2) (hsh : itemShapesL[k]? = some shape) (hsm : shape.length <= 100) (hf : ∀ f ∈ shape, 0 <= f /\ f < 14)
  (hv : ∀ f : Nat, 0 <= (itemV k ep tag o).getD f 0 /\ (itemV k ep tag o).getD f 0 < 65536) (hc : o.ch < 256)
  (hok : ∀ f ∈ itemFieldsL, okV (itemV k ep tag o) shape 0 f = true)
  (hK : ∀ h' b' n pc, Sli eU8 (some ⟨b', 0, none⟩) n n (layB (itemV k ep tag o) shape) pc -> Own G h' (pc :: L) -> K (.tuple #[.slice (some ⟨b', 0, none⟩) n n, .nilIface]) h') :
  CallF Tryz.prog G 70 #[.agg #[.int .i64 k, .int .i64 ep, .int .i64 tag, .int .i64 o.kind, .int .i64 o.pos, .int .u8 o.ch, .int .i64 o.client, .int .i64 o.seq]] K Kp h := by
 refine S70_ok ?_
 obtain ⟨p, l, c, hcell, hs⟩ := itemShape hw hsh
 have hch : 0 <= o.ch /\ o.ch < 256 := ⟨(hv 11).1, hc⟩
 unfold S70
 refine newK.go hO ?_
 clear hO; intro r9 h hO
 refine LdI.go hO (by with_unfolding_all rfl) (If.f (by simp; omega) (LdI.g hO ?_))
 unfold S70_k1
 refine If.f (by simp; omega) ?_
 iterate 9 (refine LdI.g hO ?_)
 refine Rq.go (by omega) (LdSl.i (by rw [Int.toNat_natCast]; exact hcell _ _ hO) ⟨?_, ?_⟩)
 ·refine wireFlat hO hch λ h hO => ?_
  refine ⟨_, _, _, _, _, _, _, _, _, _, _, _, _, _, rfl, by rw [Int.toNat_natCast]; exact hcell _ _ hO, cell_go hO (by with_unfolding_all rfl) (newK.go hO ?_)⟩
  clear hO; intro r41 h hO
  refine ⟨by rw [Int.toNat_natCast]; exact hcell _ _ hO, ?_⟩
  (repeat (first | refine NN.go ?_ | refine LdI.g hO ?_ | refine cell_g hO ?_ | refine Rq.go (by omega) ?_ | (refine st1.g hO ?_; clear hO; intro h hO; dsimp only [ad, List.set] at hO)))
  refine encItemLoop (v := itemV k ep tag o) hO hw (Rdl.lit rfl rfl) hs hsm hf hv hok λ h' b' n pc hsl hO => ?_
  exact hK _ _ _ _ hsl (hO.mem (List.Sublist.cons_cons _ (List.Sublist.cons _ (List.Sublist.cons _ (List.Sublist.refl _)))))
 ·refine newK.go hO ?_
  clear hO; intro r41 h hO
  refine ⟨by rw [Int.toNat_natCast]; exact hcell _ _ hO, ?_⟩
  (repeat (first | refine NN.go ?_ | refine LdI.g hO ?_ | refine cell_g hO ?_ | refine Rq.go (by omega) ?_ | (refine st1.g hO ?_; clear hO; intro h hO; dsimp only [ad, List.set] at hO)))
  refine wireFlat hO hch λ h hO => ?_
  refine ⟨_, _, _, _, _, _, _, _, _, _, _, _, _, _, rfl, by rw [Int.toNat_natCast]; exact hcell _ _ hO, ?_⟩
  (repeat (first | refine NN.go ?_ | refine LdI.g hO ?_ | refine cell_g hO ?_ | refine Rq.go (by omega) ?_ | (refine st1.g hO ?_; clear hO; intro h hO; dsimp only [ad, List.set] at hO)))
  refine encItemLoop (v := itemV k ep tag o) hO hw (Rdl.lit rfl rfl) hs hsm hf hv hok λ h' b' n pc hsl hO => ?_
  exact hK _ _ _ _ hsl (hO.mem (List.Sublist.cons_cons _ (List.Sublist.cons _ (List.Sublist.cons _ (List.Sublist.refl _)))))
end Go.Sl
set_option maxRecDepth 100000
namespace Go.Sl
open Go Go.Proofs
variable {G h : Heap} {L R : List Heap} {K : Value -> Heap -> Prop} {Kp : PK}
theorem wireDecodeItem {pb : Option Addr} {l c : Nat} {k : Nat} {ep tag : Int} {o : Op} {shape : List Int} (hO : Own G h L) (hw : Gw G) (hk : 1 <= k /\ k <= 2) (hsh : itemShapesL[k]? = some shape) (hsm : shape.length <= 100) (hf : ∀ f ∈ shape, 0 <= f /\ f < 14)
  (hv : ∀ f : Nat, 0 <= (itemV k ep tag o).getD f 0 /\ (itemV k ep tag o).getD f 0 < 65536) (hv1 : ∀ f : Nat, sizeL.getD f 0 = 1 -> (itemV k ep tag o).getD f 0 < 256)
  (hm : ∀ j x, shape[j]? = some x -> mayB x (pv (itemV k ep tag o) shape (j + 1)) 0 = true) (hpv : pv (itemV k ep tag o) shape shape.length = itemV k ep tag o) (hlong : (longS shape : Int) = (l : Int)) (hlsm : l <= 1000)
  (hr : Rdl L eU8 pb l (layB (itemV k ep tag o) shape))
  (hK : ∀ h', Own G h' L -> K (.tuple #[.agg #[.int .i64 k, .int .i64 ep, .int .i64 tag, .int .i64 o.kind, .int .i64 o.pos, .int .u8 o.ch, .int .i64 o.client, .int .i64 o.seq], .nilIface]) h') :
  CallF Tryz.prog G 130 #[.slice pb l c] K Kp h := by
 refine S130_ok ?_
 obtain ⟨p, ls, cs, hcell, hs⟩ := itemShape hw hsh
 have hch : 0 <= o.ch /\ o.ch < 256 := ⟨(hv 11).1, hv1 11 (by decide)⟩
 have hl := hr.len hO
 have hlpos : 0 < l := by rw [hl]; simp [layB]
 have hk0 : (byt (k : Int)).toNat = k := by rw [byt_mod]; omega
 have e8 : IntKind.u8.wrap o.ch = o.ch := by
  have : IntKind.u8.wrap o.ch = o.ch % 256 := by simp [IntKind.wrap, IntKind.signed, IntKind.bits]
  rw [this]; omega
 unfold S130
 refine newK.go hO ?_
 clear hO; intro r4 h hO
 refine If.f (by simp; omega) (Rq.go (by omega) ?_)
 obtain ⟨x, hx, hn⟩ := (hr.cons _).at eU8_ok hO (i := 0) (by omega) (by omega)
 refine hn _ λ a _ hc => ?_
 have hx0 : x = byt (k : Int) := by
  have : (layB (itemV k ep tag o) shape)[0]? = some (byt (k : Int)) := rfl
  rw [show (0 : Int).toNat = 0 from rfl, this] at hx
  cases hx; rfl
 subst hx0
 have hc0 := hc 0 _ rfl
 rw [show ((0 : Int).toNat * eU8.m) = 0 from rfl, show (a.add 0).add 0 = a by unfold Addr.add; simp] at hc0
 refine LdI.i hc0 ?_
 rw [hk0]
 have hwk : IntKind.i64.wrap (k : Int) = k := wrap_i64 (by omega) (by omega)
 rw [hwk]
 refine If.f (by simp; omega) ?_
 unfold S130_k1
 rw [hwk]
 refine If.f (by simp; omega) (Rq.go (by omega) (LdSl.i (by rw [Int.toNat_natCast]; exact hcell _ _ hO) ?_))
 refine wireLong hO hw hs hsm hf ⟨_, rfl, If.f (by rw [hlong]; simp) (Rq.go (by omega) (LdSl.i (by rw [Int.toNat_natCast]; exact hcell _ _ hO) ?_))⟩
 refine wirePick (v := itemV k ep tag o) hO hw (hr.cons _) hs hsm hf hlsm hv hv1 hm λ h hO => ?_
 rw [hpv]
 refine ⟨_, _, _, _, _, _, _, _, _, _, _, _, _, _, _, rfl, newK.go hO ?_⟩
 clear hO; intro r61 h hO
 iterate 14 (refine st1.g hO ?_; clear hO; intro h hO; dsimp only [ad, List.set] at hO)
 refine Rq.go (.inl rfl) (If.f rfl ?_)
 (repeat (first | refine NN.go ?_ | refine LdI.g hO ?_ | refine cell_g hO ?_ | refine Rq.go (by omega) ?_ | (refine st1.g hO ?_; clear hO; intro h hO; dsimp only [ad, List.set] at hO)))
 refine wireOp (v := itemV k ep tag o) hO (Rdl.lit rfl rfl) hch λ h hO => ?_
 refine ⟨_, _, _, _, _, rfl, ?_⟩
 (repeat (first | refine NN.go ?_ | refine LdI.g hO ?_ | refine cell_g hO ?_ | refine Rq.go (by omega) ?_ | (refine st1.g hO ?_; clear hO; intro h hO; dsimp only [ad, List.set] at hO)))
 exact hK _ hO.drop1.drop1
end Go.Sl
set_option maxRecDepth 100000
namespace Go.Sl
open Go Go.Proofs
variable {G h : Heap} {L R : List Heap} {K : Value -> Heap -> Prop} {Kp : PK}
theorem encLoop {b : Nat} {v shape : List Int} {p : Option Addr} {l c : Nat} {m : Int} (hO : Own G h L) (hg : Gl G) (hw : Gw G) (hr : Rdl L eI (some ⟨b, 0, none⟩) 14 v) (hs : RdA G eI p l shape) (hsm : shape.length <= 100) (hf : ∀ f ∈ shape, 0 <= f /\ f < 14) (hv : ∀ f : Nat, 0 <= v.getD f 0 /\ v.getD f 0 < 65536)
  (hok : ∀ f : Nat, 1 <= f -> f < 14 -> okV v shape m f = true)
  (hK : ∀ h' b' n pc, n = (layB v shape ++ sum4 (crc (layB v shape))).length -> Sli eU8 (some ⟨b', 0, none⟩) n n (layB v shape ++ sum4 (crc (layB v shape))) pc -> Own G h' (pc :: L) -> K (.tuple #[.slice (some ⟨b', 0, none⟩) n n, .nilIface]) h') :
  S95_k3 G K Kp p l c ⟨b, 0, none⟩ m h := by
 unfold S95_k3
 refine LoopS.go (λ vs h' => h' = h /\ ∃ n : Nat, 1 <= n /\ n <= 14 /\ vs = [.int .i64 n]) (λ vs _ => match vs with | [.int _ n] => (14 - n).toNat | _ => 0) ⟨rfl, 1, by omega, by omega, rfl⟩ ?_
 rintro jv vs h' ⟨rfl, n, hn1, hn, rfl⟩
 unfold S95_l8
 refine ⟨_, rfl, If.dec (λ hlt => ?_) (λ hlt => ?_)⟩
 ·have hof := hok n hn1 (by omega)
  have hfr : (0 : Int) <= n /\ (n : Int) < 14 := ⟨by omega, hlt⟩
  have hfin : S95_k4 G K Kp n (λ vs' h'' => ((h'' = h' /\ ∃ n : Nat, 1 <= n /\ n <= 14 /\ vs' = [.int .i64 n]) /\ (match vs' with | [.int _ n] => (14 - n).toNat | _ => 0) < (match [Value.int .i64 (n : Int)] with | [.int _ n] => (14 - n).toNat | _ => 0))) false h' := by
   unfold S95_k4
   exact If.f rfl (Rng.go (by omega) ⟨⟨rfl, n + 1, by omega, by omega, rfl⟩, by simp only; omega⟩)
  refine wireNamed hO hs hsm ⟨_, rfl, If.mk (λ e => ?_) (λ e => ?_)⟩
  ·unfold okV at hof
   rw [e, cond_true] at hof
   refine wireMay hO hr hfr ⟨_, rfl, If.f (by rw [hof]; rfl) (wireNamed hO hs hsm ⟨_, rfl, If.f (by rw [e]; rfl) hfin⟩)⟩
  ·unfold okV at hof
   rw [e, cond_false] at hof
   refine wireNamed hO hs hsm ⟨_, rfl, If.t (by rw [e]; rfl) (Rq.go hfr (LdI.i (n := v.getD n 0) ?_ ?_))⟩
   ·have := vget hO hr (i := n) (by omega)
    rw [add_mk, Nat.mul_one, Int.toNat_natCast]; exact this
   ·have : (v.getD n 0 != 0) = false := by
     have h0 : v.getD n 0 = 0 := by simpa using hof
     rw [h0]; rfl
    rw [this]; exact hfin
 ·unfold S95_k5
  refine wireLay hO hw hr hs hsm hf hv λ h' b' n pc hsl hO => ?_
  refine ⟨_, _, _, rfl, ?_⟩
  have hn : n = (layB v shape).length := hsl.len
  have hll : (layB v shape).length <= 1 + 2 * shape.length := by
   have : ∀ s : List Int, (s.flatMap (layF v)).length <= 2 * s.length := by
    intro s
    induction s with
    | nil => simp
    | cons f s ih => have := layF_len v f; simp only [List.flatMap_cons, List.length_append, List.length_cons]; omega
   have := this shape
   simp only [layB, List.length_cons]; omega
  refine octSeal hg hO (hsl.rdl (by simp)) (by omega) λ h' b2 pc2 hs2 hO => ?_
  refine ⟨_, _, _, rfl, hK _ _ _ _ (by rw [List.length_append, <- hn]; rfl) hs2 hO.drop2⟩
theorem wireEncode {k : Nat} {m1 m2 m3 m4 m5 m6 m7 m8 m9 m10 m11 m12 m13 : Int} {v shape : List Int} (hO : Own G h L) (hg : Gl G) (hw : Gw G) (hV : v = [(k : Int), m1, m2, m3, m4, m5, m6, m7, m8, m9, m10, m11, m12, m13]) (hk : 1 <= k /\ k <= 6) (hk2 : k ≠ 2) (hsh : shapesL[k]? = some shape) (hsm : shape.length <= 100) (hf : ∀ f ∈ shape, 0 <= f /\ f < 14)
  (hv : ∀ f : Nat, 0 <= v.getD f 0 /\ v.getD f 0 < 65536) (hc : m11 < 256)
  (hok : ∀ f : Nat, 1 <= f -> f < 14 -> okV v shape 0 f = true)
  (hK : ∀ h' b' n pc, n = (layB v shape ++ sum4 (crc (layB v shape))).length -> Sli eU8 (some ⟨b', 0, none⟩) n n (layB v shape ++ sum4 (crc (layB v shape))) pc -> Own G h' (pc :: L) -> K (.tuple #[.slice (some ⟨b', 0, none⟩) n n, .nilIface]) h') :
  CallF Tryz.prog G 95 #[.agg #[.int .i64 k, .int .i64 m1, .int .i64 m2, .int .i64 m3, .int .i64 m4, .int .i64 m5, .int .i64 m6, .int .i64 m7, .int .i64 m8, .int .i64 m9, .int .i64 m10, .int .u8 m11, .int .i64 m12, .int .i64 m13]] K Kp h := by
 refine S95_ok ?_
 obtain ⟨p, l, c, hcell, hs⟩ := msgShape hw hsh
 have hch : 0 <= m11 /\ m11 < 256 := ⟨by have := (hv 11).1; rw [hV] at this; exact this, hc⟩
 unfold S95
 refine newK.go hO ?_
 clear hO; intro r9 h hO
 refine LdI.go hO (by with_unfolding_all rfl) (If.f (by simp; omega) (LdI.g hO ?_))
 unfold S95_k1
 refine If.f (by simp; omega) ?_
 iterate 15 (refine LdI.g hO ?_)
 refine Rq.go (by omega) (LdSl.i (by rw [Int.toNat_natCast]; exact hcell _ _ hO) ⟨?_, ?_⟩)
 ·refine wireFlat hO hch λ h hO => ?_
  refine ⟨_, _, _, _, _, _, _, _, _, _, _, _, _, _, rfl, by rw [Int.toNat_natCast]; exact hcell _ _ hO, cell_go hO (by with_unfolding_all rfl) (newK.go hO ?_)⟩
  clear hO; intro r41 h hO
  refine ⟨by rw [Int.toNat_natCast]; exact hcell _ _ hO, ?_⟩
  (repeat (first | refine NN.go ?_ | refine LdI.g hO ?_ | refine cell_g hO ?_ | refine Rq.go (by omega) ?_ | (refine st1.g hO ?_; clear hO; intro h hO; dsimp only [ad, List.set] at hO)))
  refine If.f (by simp; omega) ?_
  refine encLoop (v := v) hO hg hw (by rw [hV]; exact Rdl.lit rfl rfl) hs hsm hf hv hok λ h' b' n pc hn hsl hO => ?_
  exact hK _ _ _ _ hn hsl (hO.mem (List.Sublist.cons_cons _ (List.Sublist.cons _ (List.Sublist.cons _ (List.Sublist.refl _)))))
 ·refine newK.go hO ?_
  clear hO; intro r41 h hO
  refine ⟨by rw [Int.toNat_natCast]; exact hcell _ _ hO, ?_⟩
  (repeat (first | refine NN.go ?_ | refine LdI.g hO ?_ | refine cell_g hO ?_ | refine Rq.go (by omega) ?_ | (refine st1.g hO ?_; clear hO; intro h hO; dsimp only [ad, List.set] at hO)))
  refine wireFlat hO hch λ h hO => ?_
  refine ⟨_, _, _, _, _, _, _, _, _, _, _, _, _, _, rfl, by rw [Int.toNat_natCast]; exact hcell _ _ hO, ?_⟩
  (repeat (first | refine NN.go ?_ | refine LdI.g hO ?_ | refine cell_g hO ?_ | refine Rq.go (by omega) ?_ | (refine st1.g hO ?_; clear hO; intro h hO; dsimp only [ad, List.set] at hO)))
  refine If.f (by simp; omega) ?_
  refine encLoop (v := v) hO hg hw (by rw [hV]; exact Rdl.lit rfl rfl) hs hsm hf hv hok λ h' b' n pc hn hsl hO => ?_
  exact hK _ _ _ _ hn hsl (hO.mem (List.Sublist.cons_cons _ (List.Sublist.cons _ (List.Sublist.cons _ (List.Sublist.refl _)))))
end Go.Sl
set_option maxRecDepth 100000
namespace Go.Sl
open Go Go.Proofs
variable {G h : Heap} {L R : List Heap} {K : Value -> Heap -> Prop} {Kp : PK}
theorem wireBody {b o l c : Nat} {bs : List UInt8} (hg : Gl G) (hO : Own G h L) (hr : Rdl L eU8 (some ⟨b, o, none⟩) l (bs ++ sum4 (crc bs))) (hc : l <= c) (hsm : l <= 64) (hpos : 0 < bs.length)
  (hK : ∀ h' b pc, Sli eU8 (some ⟨b, 0, none⟩) bs.length bs.length bs pc -> Own G h' (pc :: L) -> K (.tuple #[.slice (some ⟨b, 0, none⟩) bs.length bs.length, .nilIface]) h') : CallF Tryz.prog G 167 #[.slice (some ⟨b, o, none⟩) l c] K Kp h := by
 refine S167_ok ?_
 unfold S167
 refine If.dec (λ _ => by omega) λ _ => ?_
 refine octOpen hg hO hr hc (by omega) λ h b2 pc hs hO => ?_
 refine ⟨_, _, _, _, rfl, newK.go hO ?_⟩
 clear hO; intro r h hO
 refine errAsNil ⟨_, rfl, If.f rfl (If.f (by simp only [beq_eq_false_iff_ne, ne_eq]; omega) ?_)⟩
 exact hK _ _ _ hs hO.drop1
theorem wireDecode {b ob l c : Nat} {k : Nat} {m1 m2 m3 m4 m5 m6 m7 m8 m9 m10 m11 m12 m13 : Int} {v shape : List Int} (hO : Own G h L) (hg : Gl G) (hw : Gw G) (hV : v = [(k : Int), m1, m2, m3, m4, m5, m6, m7, m8, m9, m10, m11, m12, m13]) (hk : 1 <= k /\ k <= 6) (hk2 : k ≠ 2) (hsh : shapesL[k]? = some shape) (hsm : shape.length <= 100) (hf : ∀ f ∈ shape, 0 <= f /\ f < 14)
  (hv : ∀ f : Nat, 0 <= v.getD f 0 /\ v.getD f 0 < 65536) (hv1 : ∀ f : Nat, sizeL.getD f 0 = 1 -> v.getD f 0 < 256)
  (hm : ∀ j x, shape[j]? = some x -> mayB x (pv v shape (j + 1)) 0 = true) (hpv : pv v shape shape.length = v) (hlong : longS shape = ((layB v shape).length : Int)) (hl64 : l <= 64) (hc : l <= c)
  (hr : Rdl L eU8 (some ⟨b, ob, none⟩) l (layB v shape ++ sum4 (crc (layB v shape))))
  (hK : ∀ h', Own G h' L -> K (.tuple #[.agg #[.int .i64 k, .int .i64 m1, .int .i64 m2, .int .i64 m3, .int .i64 m4, .int .i64 m5, .int .i64 m6, .int .i64 m7, .int .i64 m8, .int .i64 m9, .int .i64 m10, .int .u8 m11, .int .i64 m12, .int .i64 m13], .nilIface]) h') :
  CallF Tryz.prog G 134 #[.slice (some ⟨b, ob, none⟩) l c] K Kp h := by
 refine S134_ok ?_
 obtain ⟨p, ls, cs, hcell, hs⟩ := msgShape hw hsh
 have hch : 0 <= v.getD 11 0 /\ v.getD 11 0 < 256 := ⟨(hv 11).1, hv1 11 (by decide)⟩
 have hl := hr.len hO
 have hlpos : 0 < (layB v shape).length := by simp [layB]
 have hk0 : (byt (k : Int)).toNat = k := by rw [byt_mod]; omega
 have hwk : IntKind.i64.wrap (k : Int) = k := wrap_i64 (by omega) (by omega)
 have hll : (layB v shape).length <= 64 := by rw [List.length_append] at hl; omega
 unfold S134
 refine newK.go hO ?_
 clear hO; intro r4 h hO
 refine wireBody hg hO (hr.cons _) hc hl64 hlpos λ h b2 pc hsl hO => ?_
 refine ⟨_, _, _, _, rfl, Rq.go (.inl rfl) (If.f rfl (Rq.go (by omega) ?_))⟩
 obtain ⟨x, hx, hn⟩ := (hsl.rs _ List.mem_cons_self).at eU8_ok hO (i := 0) (by omega) (by omega)
 refine hn _ λ a _ hc => ?_
 have hx0 : x = byt (k : Int) := by
  have : (layB v shape)[0]? = some (byt (k : Int)) := by rw [hV]; rfl
  rw [show (0 : Int).toNat = 0 from rfl, this] at hx
  cases hx; rfl
 subst hx0
 have hc0 := hc 0 _ rfl
 rw [show ((0 : Int).toNat * eU8.m) = 0 from rfl, show (a.add 0).add 0 = a by unfold Addr.add; simp] at hc0
 refine LdI.i hc0 ?_
 rw [hk0, hwk]
 refine If.f (by simp; omega) ?_
 unfold S134_k1
 rw [hwk]
 refine If.f (by simp; omega) (Rq.go (by omega) (LdSl.i (by rw [Int.toNat_natCast]; exact hcell _ _ hO) ?_))
 refine wireLong hO hw hs hsm hf ⟨_, rfl, If.f (by rw [hlong]; simp) (Rq.go (by omega) (LdSl.i (by rw [Int.toNat_natCast]; exact hcell _ _ hO) ?_))⟩
 rw [show ((k : Int) == 2) = false by simp; omega]
 refine wirePick (v := v) (own := false) hO hw (hsl.rs _ List.mem_cons_self) hs hsm hf (by omega) hv hv1 hm λ h hO => ?_
 rw [hpv]
 rw [hV] at hch ⊢
 refine ⟨_, _, _, _, _, _, _, _, _, _, _, _, _, _, _, rfl, newK.go hO ?_⟩
 clear hO; intro r61 h hO
 iterate 14 (refine st1.g hO ?_; clear hO; intro h hO; dsimp only [ad, List.set] at hO)
 refine Rq.go (.inl rfl) (If.f rfl ?_)
 (repeat (first | refine NN.go ?_ | refine LdI.g hO ?_ | refine cell_g hO ?_ | refine Rq.go (by omega) ?_ | (refine st1.g hO ?_; clear hO; intro h hO; dsimp only [ad, List.set] at hO)))
 refine wireOp (v := [(k : Int), m1, m2, m3, m4, m5, m6, m7, m8, m9, m10, m11, m12, m13]) hO (Rdl.lit rfl rfl) hch λ h hO => ?_
 refine ⟨_, _, _, _, _, rfl, ?_⟩
 (repeat (first | refine NN.go ?_ | refine LdI.g hO ?_ | refine cell_g hO ?_ | refine Rq.go (by omega) ?_ | (refine st1.g hO ?_; clear hO; intro h hO; dsimp only [ad, List.set] at hO)))
 exact hK _ hO.drop1.drop1.drop1
end Go.Sl
set_option maxRecDepth 100000
namespace Go.Sl
open Go Go.Proofs
variable {G h : Heap} {L R : List Heap} {K : Value -> Heap -> Prop} {Kp : PK}
theorem walAll {p d : Option Addr} {pls : List (List UInt8)} {n : Nat} {c : Heap} (hO : Own G h L) [t : Take L c R] (hq : LogP p d pls n c) (hsm : pls.length <= 1000000) (h64 : ∀ pl ∈ pls, pl.length <= 64)
  (hK : ∀ h' p k c' hs ps pcs, Sli eSl p k c' hs ps -> Pls hs pls pcs -> Own G h' (ps :: (pcs ++ L)) -> K (.slice p k c') h') : CallF Tryz.prog G 64 #[.pointer p] K Kp h := by
 refine S64_ok ?_
 obtain ⟨cq, cd, hq, hd, hj⟩ := hq
 obtain ⟨b2, q, l1, k1, hs, ps, q2, l2, k2, pe, pcs, rfl, hs1, hpls, hs2, hj2⟩ := hq
 have hop : ∀ (h : Heap) (M : List Heap), Own G h (M ++ L) -> Own G h (single b2 (.cells #[.pointer d, .slice q l1 k1, .slice q2 l2 k2] 171 (0, 0)) :: ps :: pe :: (pcs ++ (cd :: (M ++ R)))) := λ h M hO => by
  have h1 : Own G h (c :: (M ++ R)) := hO.perm (by (refine perm_cnt λ a => ?_; have ht := cnt_perm t.perm a; simp only [cnt_app, List.append_eq, cnt_cons, cnt_nil] at ht ⊢; omega))
  exact (h1.openJ hj).openJ hj2
 have e1 := hs1.len
 have e2 := hpls.l1
 have e3 := hpls.l2
 unfold S64
 refine NN.go (LdSl.go (hop h [] hO) (by with_unfolding_all rfl) ?_)
 refine LoopS.go (λ vs h' => ∃ (i : Nat) (p' : Option Addr) (k c' : Nat) (hs' : List (Option Addr × Nat × Nat)) (ps' : Heap) (pcs' : List Heap), i <= pls.length /\ vs = [.slice p' k c', .int .i64 i] /\ Sli eSl p' k c' hs' ps' /\ Pls hs' (pls.take i) pcs' /\ Own G h' (ps' :: (pcs' ++ L))) (λ vs _ => match vs with | [_, .int _ n] => (pls.length - n).toNat | _ => 0) ⟨0, none, 0, 0, [], emp, [], by omega, rfl, .no, by simpa using Pls.nil, hO.addEmp0⟩ ?_
 rintro jv vs h ⟨i, p', k, c', hs', ps', pcs', hi, rfl, hsl, hpls', hO⟩
 have hO2 := hop h (ps' :: pcs') hO
 have ek := hsl.len
 have ek2 := hpls'.l1
 rw [List.length_take] at ek2
 unfold S64_l3
 refine ⟨_, _, _, _, rfl, If.dec (λ hlt => ?_) (λ hlt => ?_)⟩
 ·have hip : i < pls.length := by omega
  refine Rq.go ⟨by omega, hlt⟩ ?_
  obtain ⟨x, hx, hn⟩ := (hs1.rs _ (List.mem_cons_of_mem _ List.mem_cons_self)).at eSl_ok hO2 (i := (i : Int)) (by omega) hlt
  refine hn _ λ a _ hc => ?_
  obtain ⟨xa, xl, xc⟩ := x
  refine LdSl.i (hc 0 _ rfl) ?_
  have hx' : hs[i]? = some (xa, xl, xc) := by simpa using hx
  obtain ⟨hrs, hcap⟩ := hpls.rd i _ pls[i] pcs[i] hx' (List.getElem?_eq_getElem hip) (List.getElem?_eq_getElem (by omega))
  have hrd : RdS G h eU8 xa xl pls[i] := hrs _ (List.mem_cons_of_mem _ (List.mem_cons_of_mem _ (List.mem_cons_of_mem _ (List.mem_append_left _ (List.getElem_mem _))))) G h hO2
  have hxl : xl = pls[i].length := hrd.1
  have hx64 := h64 _ (List.getElem_mem hip)
  refine append_go tU8 tU8.ud (hO.addEmp0) (.refl _) Sli.no hrd (by omega) λ h pa' ca' pca' hs3 hO => ?_
  refine ⟨_, _, _, rfl, newK.go hO ?_⟩
  clear hO2 hO; intro r h hO
  refine append1 tSl hO hsl (y := (pa', 0 + xl, ca')) rfl (by omega) λ h p2 c2 ps2 hsl2 hO => ?_
  refine ⟨_, _, _, rfl, Rng.go (by omega) ⟨⟨i + 1, _, _, _, _, _, pcs' ++ [pca'], by omega, rfl, hsl2, ?_, ?_⟩, ?_⟩⟩
  ·rw [List.take_add_one, List.getElem?_eq_getElem hip]
   refine hpls'.snoc ?_ hs3.cap
   simpa using hs3.rs
  ·exact hO.perm (by (refine perm_cnt λ a => ?_; simp only [cnt_app, List.append_eq, cnt_cons, cnt_nil]; omega))
  ·simp only; omega
 ·have hip : i = pls.length := by omega
  subst hip
  rw [List.take_length] at hpls'
  unfold S64_k1
  exact hK _ _ _ _ _ _ _ hsl hpls' hO
end Go.Sl
set_option maxRecDepth 100000
namespace Go.Sl
open Go Go.Proofs
variable {G h : Heap} {L R : List Heap} {K : Value -> Heap -> Prop} {Kp : PK}
theorem docWithin {n lo hi : Int} (hK : K (.bool (decide (lo <= n) && decide (n <= hi))) h) : CallF Tryz.prog G 145 #[.int .i64 n, .int .i64 lo, .int .i64 hi] K Kp h := by
 refine S145_ok ?_
 unfold S145 S145_k1
 refine If.dec (λ e => ?_) (λ e => ?_)
 ·rw [decide_eq_true e, Bool.true_and] at hK; exact hK
 ·rw [decide_eq_false e, Bool.false_and] at hK; exact hK
def inR (n lo hi : Int) : Bool := decide (lo <= n) && decide (n <= hi)
def validE (o : Op) : Int :=
 bif !(inR o.kind 0 2) then 40 else bif !(inR o.client 1 64) then 41 else bif !(inR o.seq 1 64) then 41
 else bif (bif o.kind == 1 then !(inR o.ch 32 126) else o.ch != 0) then 42
 else bif !(inR o.pos 0 (bif o.kind == 0 then 0 else 4095)) then 43 else 0
theorem docValid {o : Op} (hO : Own G h L) (hc : 0 <= o.ch /\ o.ch < 256)
  (hK : ∀ h', Own G h' L -> K (.int .i64 (validE o)) h') : CallF Tryz.prog G 106 #[opV o] K Kp h := by
 refine S106_ok ?_
 unfold S106
 refine newK.go hO ?_
 clear hO; intro r h hO
 have hO' := hO.drop1
 have hw : IntKind.i64.wrap o.ch = o.ch := wrap_i64 (by omega) (by omega)
 refine LdI.go hO (by with_unfolding_all rfl) (docWithin ⟨_, rfl, ?_⟩)
 have hK := hK h hO'
 unfold validE at hK
 change K (.int .i64 (bif !(inR o.kind 0 2) then _ else _)) h at hK
 refine If.mk (λ e => ?_) (λ e => ?_)
 ·have e' : (!(inR o.kind 0 2)) = true := e
  rw [e', cond_true] at hK; exact hK
 have e' : (!(inR o.kind 0 2)) = false := e
 rw [e', cond_false] at hK
 refine LdI.go hO (by with_unfolding_all rfl) (docWithin ⟨_, rfl, If.mk (λ e => ?_) (λ e => ?_)⟩)
 ·have e' : (!(inR o.client 1 64)) = true := e
  rw [e', cond_true] at hK
  unfold S106_k1
  exact If.t rfl hK
 have e' : (!(inR o.client 1 64)) = false := e
 rw [e', cond_false] at hK
 refine LdI.go hO (by with_unfolding_all rfl) (docWithin ⟨_, rfl, ?_⟩)
 unfold S106_k1
 refine If.mk (λ e => ?_) (λ e => ?_)
 ·have e' : (!(inR o.seq 1 64)) = true := e
  rw [e', cond_true] at hK; exact hK
 have e' : (!(inR o.seq 1 64)) = false := e
 rw [e', cond_false] at hK
 have fin : (bif (bif o.kind == 1 then !(inR o.ch 32 126) else o.ch != 0) then (42 : Int) else bif !(inR o.pos 0 (bif o.kind == 0 then 0 else 4095)) then 43 else 0) = (bif !(inR o.pos 0 (bif o.kind == 0 then 0 else 4095)) then 43 else 0) -> S106_k2 G K Kp r h := λ e => by
  rw [e] at hK
  unfold S106_k2
  refine LdI.g hO ?_
  have t3 : ∀ z : Int, K (.int .i64 (bif !(inR o.pos 0 z) then 43 else 0)) h -> S106_k3 G K Kp r z h := λ z hz => by
   unfold S106_k3
   refine LdI.go hO (by with_unfolding_all rfl) (docWithin ⟨_, rfl, If.mk (λ e => ?_) (λ e => ?_)⟩)
   ·have e' : (!(inR o.pos 0 z)) = true := e
    rw [e', cond_true] at hz; exact hz
   ·have e' : (!(inR o.pos 0 z)) = false := e
    rw [e', cond_false] at hz; exact hz
  refine If.mk (λ e => ?_) (λ e => ?_)
  ·rw [e, cond_true] at hK; exact t3 0 hK
  ·rw [e, cond_false] at hK; exact t3 4095 hK
 refine LdI.go hO (by with_unfolding_all rfl) (If.mk (λ e1 => ?_) (λ e1 => ?_))
 ·refine LdI.g hO ?_
  rw [hw]
  refine docWithin ⟨_, rfl, If.mk (λ e => ?_) (λ e => ?_)⟩
  ·have e' : (!(inR o.ch 32 126)) = true := e
   rw [e1, cond_true, e', cond_true] at hK; exact hK
  ·have e' : (!(inR o.ch 32 126)) = false := e
   exact fin (by rw [e1, cond_true, e', cond_false])
 ·refine LdI.go hO (by with_unfolding_all rfl) (If.mk (λ e => ?_) (λ e => ?_))
  ·rw [e1, cond_false, e, cond_true] at hK; exact hK
  ·exact fin (by rw [e1, cond_false, e, cond_false])
end Go.Sl
set_option maxRecDepth 100000
namespace Go.Sl
open Go Go.Proofs
variable {G h : Heap} {L R : List Heap} {K : Value -> Heap -> Prop} {Kp : PK}
def fitsE (n : Int) (o : Op) : Int :=
 bif validE o != 0 then validE o else bif !(inR n 0 4096) || (o.kind == 1 && n == 4096) then 44
 else bif (o.kind == 1 && decide (o.pos > n)) || (o.kind == 2 && decide (o.pos >= n)) then 43 else 0
theorem docFits {n : Int} {o : Op} (hO : Own G h L) (hc : 0 <= o.ch /\ o.ch < 256)
  (hK : ∀ h', Own G h' L -> K (.int .i64 (fitsE n o)) h') : CallF Tryz.prog G 109 #[.int .i64 n, opV o] K Kp h := by
 refine S109_ok ?_
 unfold S109
 refine newK.go hO ?_
 clear hO; intro r h hO
 (repeat (first | refine NN.go ?_ | refine LdI.g hO ?_ | refine cell_g hO ?_ | refine Rq.go (by omega) ?_ | (refine st1.g hO ?_; clear hO; intro h hO; dsimp only [ad, List.set] at hO)))
 refine docValid (o := o) hO hc λ h hO => ⟨_, rfl, ?_⟩
 have hK := hK h hO.drop1
 unfold fitsE at hK
 have k2 : ∀ b, K (.int .i64 (bif b then 43 else 0)) h -> S109_k2 G K Kp b h := λ b hb => by
  unfold S109_k2
  cases b <;> exact hb
 refine If.mk (λ e => ?_) (λ e => ?_)
 ·rw [e, cond_true] at hK; exact hK
 rw [e, cond_false] at hK
 have k1 : ∀ b, b = (!(inR n 0 4096) || (o.kind == 1 && n == 4096)) -> S109_k1 G K Kp r n b h := λ b hb => by
  rw [<- hb] at hK
  unfold S109_k1
  cases b with
  | true => exact If.t rfl hK
  | false =>
   rw [cond_false] at hK
   refine If.f rfl (LdI.go hO (by with_unfolding_all rfl) (If.mk (λ e1 => ?_) (λ e1 => ?_)))
   ·rw [e1, Bool.true_and] at hK
    refine LdI.go hO (by with_unfolding_all rfl) (If.mk (λ e2 => ?_) (λ e2 => ?_))
    ·rw [e2, Bool.true_or] at hK; exact k2 _ hK
    ·rw [e2, Bool.false_or] at hK
     refine LdI.go hO (by with_unfolding_all rfl) (If.mk (λ e3 => ?_) (λ e3 => ?_))
     ·rw [e3, Bool.true_and] at hK
      exact LdI.go hO (by with_unfolding_all rfl) (k2 _ hK)
     ·rw [e3, Bool.false_and] at hK; exact k2 _ hK
   ·rw [e1, Bool.false_and, Bool.false_or] at hK
    refine LdI.go hO (by with_unfolding_all rfl) (If.mk (λ e3 => ?_) (λ e3 => ?_))
    ·rw [e3, Bool.true_and] at hK
     exact LdI.go hO (by with_unfolding_all rfl) (k2 _ hK)
    ·rw [e3, Bool.false_and] at hK; exact k2 _ hK
 refine docWithin ⟨_, rfl, If.mk (λ e1 => ?_) (λ e1 => ?_)⟩
 ·refine k1 true ?_
  have e1' : (!(inR n 0 4096)) = true := e1
  rw [e1', Bool.true_or]
 ·have e1' : (!(inR n 0 4096)) = false := e1
  refine LdI.go hO (by with_unfolding_all rfl) (If.mk (λ e2 => ?_) (λ e2 => ?_))
  ·refine k1 _ ?_
   rw [e1', Bool.false_or, e2, Bool.true_and]
  ·refine k1 false ?_
   rw [e1', Bool.false_or, e2, Bool.false_and]
end Go.Sl
set_option maxRecDepth 100000
namespace Go.Sl
open Go Go.Proofs
variable {G h : Heap} {L R : List Heap} {K : Value -> Heap -> Prop} {Kp : PK}
structure Elm where
 ch : Int
 client : Int
 seq : Int
def eElm : En Elm := ⟨63, 3, λ x => [.int .u8 x.ch, .int .i64 x.client, .int .i64 x.seq], ⟨0, 0, 0⟩⟩
theorem eElm_ok : eElm.Ok := ⟨λ _ => rfl, by decide, λ x v hv => by simp [eElm] at hv; rcases hv with rfl | rfl | rfl <;> rfl⟩
theorem tElm : SlT Tryz.prog 45 eElm := ⟨eElm_ok, rfl, ⟨_, rfl, rfl, by decide, _, rfl, rfl⟩⟩
def applyD (d : List Elm) (o : Op) : List Elm :=
 bif o.kind == 1 then d.take o.pos.toNat ++ [⟨o.ch, o.client, o.seq⟩] ++ d.drop o.pos.toNat
 else bif o.kind == 2 then d.take o.pos.toNat ++ d.drop (o.pos.toNat + 1) else d
theorem Rdl.cut {α : Type} {e : En α} (ok : e.Ok) {L : List Heap} {p : Option Addr} {l cap : Nat} {xs : List α} (hr : Rdl L e p l xs) (hp : ∀ a, p = some a -> a.spot = none) (i n : Nat) (hl : i + n <= l) (hcap : l <= cap) : Rdl L e (subA p i cap e.m) n ((xs.drop i).take n) := λ G h hO => by
 have hs := hr G h hO
 cases p with
 | none =>
  have := hs.2; simp only at this
  have h0 : n = 0 := by omega
  subst h0
  have e0 : subA (none : Option Addr) i cap e.m = none := by unfold subA; split <;> rfl
  rw [e0]
  exact ⟨by simp, rfl⟩
 | some a =>
  unfold subA
  split
  ·have h0 : n = 0 := by omega
   subst h0
   refine ⟨by simp, ?_⟩
   intro j v hj
   simp [En.F] at hj
  ·exact hs.part ok (hp a rfl) i n hl
theorem Rdl.pre {α : Type} {e : En α} {L : List Heap} {p : Option Addr} {l : Nat} {xs : List α} (hr : Rdl L e p l xs) (n : Nat) (hl : n <= l) : Rdl L e p n (xs.take n) := λ G h hO => by
 have hs := hr G h hO
 obtain ⟨h1, h2⟩ := hs
 refine ⟨by simp; omega, ?_⟩
 cases p with
 | none => simp only at h2 ⊢; omega
 | some a =>
  intro i v hv
  apply h2
  have : e.F xs = e.F (xs.take n) ++ e.F (xs.drop n) := by rw [<- En.F_app, List.take_append_drop]
  rw [this, List.getElem?_append_left (List.getElem?_eq_some_iff.1 hv).1]; exact hv
theorem Sli.flat {α : Type} {e : En α} {p : Option Addr} {l c : Nat} {xs : List α} {pc : Heap} (h : Sli e p l c xs pc) : ∀ a, p = some a -> a.spot = none := λ a ha => by
 cases h with
 | no => cases ha
 | bk js z hz => cases ha; rfl
theorem fits0 {n : Int} {o : Op} (h : fitsE n o = 0) : (0 <= o.pos /\ o.pos <= 4095) /\ (o.kind = 1 -> o.pos <= n) /\ (o.kind = 2 -> o.pos < n) := by
 unfold fitsE at h
 cases hv : (validE o != 0) with
 | true => rw [hv, cond_true] at h; rw [h] at hv; cases hv
 | false =>
  rw [hv, cond_false] at h
  have hv0 : validE o = 0 := by simpa using hv
  have hpos : 0 <= o.pos /\ o.pos <= 4095 := by
   unfold validE at hv0
   cases e1 : inR o.kind 0 2 <;> cases e2 : inR o.client 1 64 <;> cases e3 : inR o.seq 1 64 <;> simp only [e1, e2, e3, Bool.not_true, Bool.not_false, cond_true, cond_false] at hv0 <;> try (exact absurd hv0 (by decide))
   cases e4 : (bif o.kind == 1 then !(inR o.ch 32 126) else o.ch != 0) <;> simp only [e4, cond_true, cond_false] at hv0 <;> try (exact absurd hv0 (by decide))
   cases e5 : inR o.pos 0 (bif o.kind == 0 then 0 else 4095) <;> simp only [e5, Bool.not_true, Bool.not_false, cond_true, cond_false] at hv0 <;> try (exact absurd hv0 (by decide))
   unfold inR at e5
   simp only [Bool.and_eq_true, decide_eq_true_eq] at e5
   cases e6 : (o.kind == 0) <;> rw [e6] at e5 <;> simp only [cond_true, cond_false] at e5 <;> omega
  refine ⟨hpos, λ hk => ?_, λ hk => ?_⟩
  ·rw [hk] at h
   cases ha : (!(inR n 0 4096) || ((1 : Int) == 1 && n == 4096)) <;> rw [ha] at h <;> simp only [cond_true, cond_false] at h
   ·have : decide (o.pos > n) = false := by
     cases hd : decide (o.pos > n) with
     | false => rfl
     | true => rw [hd] at h; simp at h
    have := of_decide_eq_false this; omega
   ·exact absurd h (by decide)
  ·rw [hk] at h
   cases ha : (!(inR n 0 4096) || ((2 : Int) == 1 && n == 4096)) <;> rw [ha] at h <;> simp only [cond_true, cond_false] at h
   ·have : decide (o.pos >= n) = false := by
     cases hd : decide (o.pos >= n) with
     | false => rfl
     | true => rw [hd] at h; simp at h
    have := of_decide_eq_false this; omega
   ·exact absurd h (by decide)
theorem docApply {p : Option Addr} {l c : Nat} {d : List Elm} {o : Op} (hO : Own G h L) (hc : 0 <= o.ch /\ o.ch < 256) (hr : Rdl L eElm p l d) (hp : ∀ a, p = some a -> a.spot = none) (hlc : l <= c) (hsm : l <= 100000) (hf : fitsE l o = 0)
  (hK : ∀ h' p' l' c' pc, Sli eElm p' l' c' (applyD d o) pc -> Own G h' (pc :: L) -> K (.tuple #[.slice p' l' c', .int .i64 0]) h') : CallF Tryz.prog G 113 #[.slice p l c, opV o] K Kp h := by
 refine S113_ok ?_
 have hl := hr.len hO
 obtain ⟨hpos, hk1, hk2⟩ := fits0 hf
 unfold S113
 refine newK.go hO ?_
 clear hO; intro r h hO
 (repeat (first | refine NN.go ?_ | refine LdI.g hO ?_ | refine cell_g hO ?_ | refine Rq.go (by omega) ?_ | (refine st1.g hO ?_; clear hO; intro h hO; dsimp only [ad, List.set] at hO)))
 refine docFits (o := o) hO hc λ h hO => ⟨_, rfl, ?_⟩
 rw [hf]
 refine If.f rfl (Rng.go (by omega) ?_)
 refine make_go tElm hO (by omega) (by omega) (by omega) λ h b pc hs hO => ?_
 refine ⟨_, _, _, rfl, ?_⟩
 simp only [Int.toNat_zero, List.replicate_zero] at hs
 simp only [Int.toNat_zero]
 have hrr := λ (X Y : Heap) => (hr.cons Y).cons X
 refine LdI.go hO (by with_unfolding_all rfl) (If.mk (λ e1 => ?_) (λ e1 => ?_))
 ·have ek : o.kind = 1 := by simpa using e1
  have hple := hk1 ek
  have hap : applyD d o = d.take o.pos.toNat ++ [⟨o.ch, o.client, o.seq⟩] ++ d.drop o.pos.toNat := by unfold applyD; rw [e1]; rfl
  refine LdI.go hO (by with_unfolding_all rfl) (Rq.go (by omega) ?_)
  refine append_go tElm tElm.ud hO (.refl _) hs ((hrr _ _).pre o.pos.toNat (by omega) _ _ hO) (by omega) λ h p1 c1 pc1 hs1 hO => ?_
  refine ⟨_, _, _, rfl, ?_⟩
  iterate 3 (refine LdI.g hO ?_)
  refine newK.go hO ?_
  clear hO; intro r2 h hO
  refine append1 tElm hO hs1 (y := ⟨o.ch, o.client, o.seq⟩) rfl (by omega) λ h p2 c2 pc2 hs2 hO => ?_
  refine ⟨_, _, _, rfl, LdI.go hO (by with_unfolding_all rfl) (Rq.go (by omega) ?_)⟩
  refine append_go tElm tElm.ud hO (.refl _) hs2 ((hrr _ _).cut eElm_ok hp o.pos.toNat (l - o.pos.toNat) (by omega) hlc _ _ hO) (by omega) λ h p3 c3 pc3 hs3 hO => ?_
  refine ⟨_, _, _, rfl, ?_⟩
  unfold S113_k1
  refine hK _ _ _ _ _ ?_ hO.drop2
  rw [hap]
  have ed : (d.drop o.pos.toNat).take (l - o.pos.toNat) = d.drop o.pos.toNat := List.take_of_length_le (by simp; omega)
  rw [ed] at hs3
  simpa using hs3
 ·refine If.mk (λ e2 => ?_) (λ e2 => ?_)
  ·have ek : o.kind = 2 := by simpa using e2
   have hple := hk2 ek
   have hap : applyD d o = d.take o.pos.toNat ++ d.drop (o.pos.toNat + 1) := by unfold applyD; rw [e1, e2]; rfl
   refine LdI.go hO (by with_unfolding_all rfl) (Rq.go (by omega) ?_)
   refine append_go tElm tElm.ud hO (.refl _) hs ((hrr _ _).pre o.pos.toNat (by omega) _ _ hO) (by omega) λ h p1 c1 pc1 hs1 hO => ?_
   refine ⟨_, _, _, rfl, LdI.go hO (by with_unfolding_all rfl) (Rng.go (by omega) (Rq.go (by omega) ?_))⟩
   refine append_go tElm tElm.ud hO (.refl _) hs1 ((hrr _ _).cut eElm_ok hp (o.pos + 1).toNat (l - (o.pos + 1).toNat) (by omega) hlc _ _ hO) (by omega) λ h p3 c3 pc3 hs3 hO => ?_
   refine ⟨_, _, _, rfl, ?_⟩
   unfold S113_k1
   refine hK _ _ _ _ _ ?_ hO.drop2
   rw [hap]
   have ed : (d.drop (o.pos + 1).toNat).take (l - (o.pos + 1).toNat) = d.drop (o.pos.toNat + 1) := by
    rw [show (o.pos + 1).toNat = o.pos.toNat + 1 by omega]; exact List.take_of_length_le (by simp; omega)
   rw [ed] at hs3
   simpa using hs3
  ·have hap : applyD d o = d := by unfold applyD; rw [e1, e2]; rfl
   refine append_go tElm tElm.ud hO (.refl _) hs (hrr _ _ _ _ hO) (by omega) λ h p3 c3 pc3 hs3 hO => ?_
   refine ⟨_, _, _, rfl, ?_⟩
   unfold S113_k1
   refine hK _ _ _ _ _ ?_ hO.drop2
   rw [hap]; simpa using hs3
end Go.Sl
set_option maxRecDepth 100000
namespace Go.Sl
open Go Go.Proofs
variable {G h : Heap} {L R : List Heap} {K : Value -> Heap -> Prop} {Kp : PK}
def eOp : En Op := ⟨84, 5, λ o => [.int .i64 o.kind, .int .i64 o.pos, .int .u8 o.ch, .int .i64 o.client, .int .i64 o.seq], ⟨0, 0, 0, 0, 0⟩⟩
theorem eOp_ok : eOp.Ok := ⟨λ _ => rfl, by decide, λ x v hv => by simp [eOp] at hv; rcases hv with rfl | rfl | rfl | rfl | rfl <;> rfl⟩
theorem tOp : SlT Tryz.prog 37 eOp := ⟨eOp_ok, rfl, ⟨_, rfl, rfl, by decide, _, rfl, rfl⟩⟩
def replayD (ops : List Op) : List Elm := ops.foldl applyD []
def Fit (ops : List Op) : Prop := ∀ i o, ops[i]? = some o -> fitsE (replayD (ops.take i)).length o = 0 /\ 0 <= o.ch /\ o.ch < 256
theorem replayD_succ {ops : List Op} {i : Nat} {o : Op} (h : ops[i]? = some o) : replayD (ops.take (i + 1)) = applyD (replayD (ops.take i)) o := by
 unfold replayD; rw [List.take_add_one, h, List.foldl_append]; rfl
theorem applyD_len (d : List Elm) (o : Op) : (applyD d o).length <= d.length + 1 := by
 unfold applyD
 cases e1 : (o.kind == 1) <;> simp only [cond_true, cond_false]
 ·cases e2 : (o.kind == 2) <;> simp only [cond_true, cond_false]
  ·omega
  ·simp; omega
 ·simp; omega
theorem replayD_len (ops : List Op) : ∀ i, (replayD (ops.take i)).length <= i := by
 intro i
 induction i with
 | zero => simp [replayD]
 | succ i ih =>
  cases e : ops[i]? with
  | none => rw [List.take_add_one, e]; simp only [Option.toList_none, List.append_nil]; omega
  | some o => rw [replayD_succ e]; have := applyD_len (replayD (ops.take i)) o; omega
theorem docReplay {p : Option Addr} {l c : Nat} {ops : List Op} (hO : Own G h L) (hr : Rdl L eOp p l ops) (hsm : l <= 10000) (hfit : Fit ops)
  (hK : ∀ h' p' l' c' pc, Sli eElm p' l' c' (replayD ops) pc -> Own G h' (pc :: L) -> K (.tuple #[.slice p' l' c', .int .i64 l, .int .i64 0]) h') : CallF Tryz.prog G 81 #[.slice p l c] K Kp h := by
 refine S81_ok ?_
 have hl := hr.len hO
 unfold S81
 refine newK.go hO ?_
 clear hO; intro r h hO
 refine LoopS.go (λ vs h' => ∃ (i : Nat) (p' : Option Addr) (l' c' : Nat) (pc : Heap), i <= l /\ vs = [.slice p' l' c', .int .i64 i] /\ Sli eElm p' l' c' (replayD (ops.take i)) pc /\ Own G h' (pc :: L)) (λ vs _ => match vs with | [_, .int _ n] => (l - n).toNat | _ => 0) ⟨0, _, _, _, _, by omega, rfl, Sli.bk (e := eElm) (b := r) (xs := []) [] (0, 0) (zok_0 _), hO⟩ ?_
 rintro jv vs h ⟨i, p', l', c', pc, hi, rfl, hs, hO⟩
 unfold S81_l3
 refine ⟨_, _, _, _, rfl, If.dec (λ hlt => ?_) (λ hlt => ?_)⟩
 ·refine Rq.go ⟨by omega, hlt⟩ ?_
  obtain ⟨o, hx, hn⟩ := (hr.cons pc).at eOp_ok hO (i := (i : Int)) (by omega) hlt
  have hx' : ops[i]? = some o := by simpa using hx
  obtain ⟨hf, hc1, hc2⟩ := hfit i o hx'
  refine hn _ λ a _ hc => ?_
  refine LdI.i (hc 0 _ rfl) (LdI.i (hc 1 _ rfl) (LdI.i (hc 2 _ rfl) (LdI.i (hc 3 _ rfl) (LdI.i (hc 4 _ rfl) ?_))))
  refine newK.go hO ?_
  clear hO; intro r2 h hO
  (repeat (first | refine NN.go ?_ | refine LdI.g hO ?_ | refine cell_g hO ?_ | refine Rq.go (by omega) ?_ | (refine st1.g hO ?_; clear hO; intro h hO; dsimp only [ad, List.set] at hO)))
  have hlen := hs.len
  have := replayD_len ops i
  refine docApply (o := o) hO ⟨hc1, hc2⟩ (hs.rdl (by simp)) hs.flat hs.cap (by omega) (by rw [hlen]; exact hf) λ h p2 l2 c2 pc2 hs2 hO => ?_
  refine ⟨_, _, _, _, rfl, If.f rfl (Rng.go (by omega) ⟨⟨i + 1, _, _, _, _, by omega, rfl, ?_, hO.drop2.drop2⟩, by simp only; omega⟩)⟩
  rw [replayD_succ hx']; exact hs2
 ·have hip : i = ops.length := by omega
  subst hip
  rw [List.take_length] at hs
  unfold S81_k1
  exact hK _ _ _ _ _ hs hO
end Go.Sl
set_option maxRecDepth 100000
namespace Go.Sl
open Go Go.Proofs
variable {G h : Heap} {L R : List Heap} {K : Value -> Heap -> Prop} {Kp : PK}
def rowI (k : Int) : Nat := bif k == 1 then 1 else bif k == 2 then 2 else 0
theorem otRow {k : Int} (hK : K (.int .i64 (rowI k)) h) : CallF Tryz.prog G 188 #[.int .i64 k] K Kp h := by
 refine S188_ok ?_
 unfold S188
 unfold rowI at hK
 refine If.mk (λ e => ?_) (λ e => ?_)
 ·rw [e, cond_true] at hK; exact hK
 ·rw [e, cond_false] at hK
  refine If.mk (λ e => ?_) (λ e => ?_)
  ·rw [e, cond_true] at hK; exact hK
  ·rw [e, cond_false] at hK; exact hK
def ruleF (i j : Nat) (a b : Int) (first : Bool) : Int × Bool :=
 match i, j with
 | 1, 1 => bif decide (b < a) || (b == a && !first) then (a + 1, true) else (a, true)
 | 1, 2 => bif decide (b < a) then (a - 1, true) else (a, true)
 | 2, 1 => bif decide (b <= a) then (a + 1, true) else (a, true)
 | 2, 2 => bif decide (b < a) then (a - 1, true) else bif b == a then (0, false) else (a, true)
 | _, _ => (a, true)
def ruleN (i j : Nat) : Nat :=
 match i, j with
 | 1, 1 => 234
 | 1, 2 => 235
 | 2, 1 => 236
 | 2, 2 => 237
 | _, _ => 233
def fnV (n : Nat) : Value := .func (.func n) #[] #[]
structure Gt (G : Heap) : Prop where
 rules : ∃ t z, G 6 = some (.cells #[fnV 233, fnV 233, fnV 233, fnV 233, fnV 234, fnV 235, fnV 233, fnV 236, fnV 237] t z)
theorem ruleCall {i j : Nat} {a b : Int} {first : Bool} (ha : 0 <= a /\ a <= 1000000)
  (hK : K (.tuple #[.int .i64 (ruleF i j a b first).1, .bool (ruleF i j a b first).2]) h) : CallF Tryz.prog G (ruleN i j) #[.int .i64 a, .int .i64 b, .bool first] K Kp h := by
 unfold ruleN
 split
 ·refine S234_ok ?_
  unfold S234
  have k1 : ∀ t, K (.tuple #[.int .i64 (bif t then (a + 1, true) else (a, true)).1, .bool (bif t then (a + 1, true) else (a, true)).2]) h -> S234_k1 G K Kp a t h := λ t ht => by
   unfold S234_k1
   cases t
   ·exact ht
   ·exact If.t rfl (Rng.go (by omega) ht)
  unfold ruleF at hK
  refine If.mk (λ e => ?_) (λ e => ?_)
  ·simp only [e, Bool.true_or] at hK; exact k1 _ hK
  ·simp only [e, Bool.false_or] at hK
   refine If.mk (λ e2 => ?_) (λ e2 => ?_)
   ·simp only [e2, Bool.true_and] at hK; exact k1 _ hK
   ·simp only [e2, Bool.false_and] at hK; exact k1 _ hK
 ·refine S235_ok ?_
  unfold S235
  unfold ruleF at hK
  refine If.mk (λ e => ?_) (λ e => ?_)
  ·simp only [e, cond_true] at hK; exact Rng.go (by omega) hK
  ·simp only [e, cond_false] at hK; exact hK
 ·refine S236_ok ?_
  unfold S236
  unfold ruleF at hK
  refine If.mk (λ e => ?_) (λ e => ?_)
  ·simp only [e, cond_true] at hK; exact Rng.go (by omega) hK
  ·simp only [e, cond_false] at hK; exact hK
 ·refine S237_ok ?_
  unfold S237
  unfold ruleF at hK
  refine If.mk (λ e => ?_) (λ e => ?_)
  ·simp only [e, cond_true] at hK; exact Rng.go (by omega) hK
  ·simp only [e, cond_false] at hK
   refine If.mk (λ e2 => ?_) (λ e2 => ?_)
   ·simp only [e2, cond_true] at hK; exact hK
   ·simp only [e2, cond_false] at hK; exact hK
 ·refine S233_ok ?_
  unfold S233
  have : ruleF i j a b first = (a, true) := by unfold ruleF; split <;> simp_all
  rw [this] at hK; exact hK
end Go.Sl
set_option maxRecDepth 100000
namespace Go.Sl
open Go Go.Proofs
variable {G h : Heap} {L R : List Heap} {K : Value -> Heap -> Prop} {Kp : PK}
def shiftO (a b : Op) (first : Bool) : Op :=
 bif (ruleF (rowI a.kind) (rowI b.kind) a.pos b.pos first).2 then { a with pos := (ruleF (rowI a.kind) (rowI b.kind) a.pos b.pos first).1 } else ⟨0, 0, 0, a.client, a.seq⟩
theorem rowI_lt (k : Int) : rowI k < 3 := by
 unfold rowI
 cases (k == 1) <;> cases (k == 2) <;> decide
theorem ruleCell (hO : Own G h L) (hT : Gt G) {i j : Nat} (hi : i < 3) (hj : j < 3) : hcell (rd G h) (((⟨6, 0, none⟩ : Addr).add (i * 3)).add (j * 1)) = some (fnV (ruleN i j)) := by
 obtain ⟨t, z, hg⟩ := hT.rules
 rw [add_mk, add_mk]
 refine glob_cell hO hg ?_
 have h1 : i = 0 ∨ i = 1 ∨ i = 2 := by omega
 have h2 : j = 0 ∨ j = 1 ∨ j = 2 := by omega
 rcases h1 with rfl | rfl | rfl <;> rcases h2 with rfl | rfl | rfl <;> rfl
theorem otShift {a b : Op} {first : Bool} (hO : Own G h L) (hT : Gt G) (ha : 0 <= a.pos /\ a.pos <= 1000000)
  (hK : ∀ h', Own G h' L -> K (opV (shiftO a b first)) h') : CallF Tryz.prog G 187 #[opV a, opV b, .bool first] K Kp h := by
 refine S187_ok ?_
 unfold S187
 refine newK.go hO ?_
 clear hO; intro r1 h hO
 refine newK.go hO ?_
 clear hO; intro r2 h hO
 refine newK.go hO ?_
 clear hO; intro r3 h hO
 iterate 4 (refine LdI.g hO ?_)
 have l1 := rowI_lt a.kind
 have l2 := rowI_lt b.kind
 refine otRow ⟨_, rfl, cell_go hO (by with_unfolding_all rfl) (cell_go hO (by with_unfolding_all rfl) (cell_go hO (by with_unfolding_all rfl) (Rq.go (by omega) ?_)))⟩
 refine otRow ⟨_, rfl, cell_go hO (by with_unfolding_all rfl) (cell_go hO (by with_unfolding_all rfl) (Rq.go (by omega) ?_))⟩
 rw [Int.toNat_natCast, Int.toNat_natCast]
 refine LdV.i (ruleCell hO hT l1 l2) ?_
 show CallF Tryz.prog G (ruleN (rowI a.kind) (rowI b.kind)) #[_, _, _] _ _ _
 refine ruleCall ha ⟨_, _, rfl, ?_⟩
 refine If.mk (λ e => ?_) (λ e => ?_)
 ·have e' : (ruleF (rowI a.kind) (rowI b.kind) a.pos b.pos first).2 = false := by simpa using e
  have es : shiftO a b first = ⟨0, 0, 0, a.client, a.seq⟩ := by unfold shiftO; rw [e']; rfl
  (repeat (first | refine NN.go ?_ | refine LdI.g hO ?_ | refine cell_g hO ?_ | refine Rq.go (by omega) ?_ | (refine st1.g hO ?_; clear hO; intro h hO; dsimp only [ad, List.set] at hO)))
  rw [es] at hK
  exact hK _ hO.drop1.drop1.drop1
 ·have e' : (ruleF (rowI a.kind) (rowI b.kind) a.pos b.pos first).2 = true := by simpa using e
  have es : shiftO a b first = { a with pos := (ruleF (rowI a.kind) (rowI b.kind) a.pos b.pos first).1 } := by unfold shiftO; rw [e']; rfl
  (repeat (first | refine NN.go ?_ | refine LdI.g hO ?_ | refine cell_g hO ?_ | refine Rq.go (by omega) ?_ | (refine st1.g hO ?_; clear hO; intro h hO; dsimp only [ad, List.set] at hO)))
  rw [es] at hK
  exact hK _ hO.drop1.drop1.drop1
end Go.Sl
set_option maxRecDepth 100000
namespace Go.Sl
open Go Go.Proofs
variable {G h : Heap} {L R : List Heap} {K : Value -> Heap -> Prop} {Kp : PK}
theorem shift_pos {a b : Op} {first : Bool} (ha : 0 <= a.pos) (hb : 0 <= b.pos) : 0 <= (shiftO a b first).pos /\ (shiftO a b first).pos <= a.pos + 1 := by
 have hr : ∀ i j, 0 <= (ruleF i j a.pos b.pos first).1 /\ (ruleF i j a.pos b.pos first).1 <= a.pos + 1 := by
  intro i j
  unfold ruleF
  split
  ·cases (decide (b.pos < a.pos) || (b.pos == a.pos && !first)) <;> simp only [cond_true, cond_false] <;> omega
  ·cases e : decide (b.pos < a.pos) <;> simp only [cond_true, cond_false]
   ·omega
   ·have := of_decide_eq_true e; omega
  ·cases decide (b.pos <= a.pos) <;> simp only [cond_true, cond_false] <;> omega
  ·cases e : decide (b.pos < a.pos) <;> simp only [cond_true, cond_false]
   ·cases (b.pos == a.pos) <;> simp only [cond_true, cond_false] <;> omega
   ·have := of_decide_eq_true e; omega
  ·simp only; omega
 unfold shiftO
 cases (ruleF (rowI a.kind) (rowI b.kind) a.pos b.pos first).2 <;> simp only [cond_true, cond_false]
 ·omega
 ·exact hr _ _
def pastS (first : Bool) (s : Op × List Op) (l : Op) : Op × List Op := (shiftO s.1 l (!first), s.2 ++ [shiftO l s.1 first])
def pastO (op : Op) (line : List Op) (first : Bool) : Op × List Op := line.foldl (pastS first) (op, [])
theorem past_inv {op : Op} {line : List Op} {first : Bool} (h0 : 0 <= op.pos /\ op.pos <= 100000) (hl : ∀ l ∈ line, 0 <= l.pos /\ l.pos <= 100000) : ∀ n, 0 <= (pastO op (line.take n) first).1.pos /\ (pastO op (line.take n) first).1.pos <= 100000 + n := by
 intro n
 induction n with
 | zero => simp only [List.take_zero, pastO, List.foldl_nil]; omega
 | succ n ih =>
  cases e : line[n]? with
  | none => rw [List.take_add_one, e]; simp only [Option.toList_none, List.append_nil]; omega
  | some l =>
   have hm := hl l (List.mem_of_getElem? e)
   have : pastO op (line.take (n + 1)) first = pastS first (pastO op (line.take n) first) l := by
    unfold pastO; rw [List.take_add_one, e, List.foldl_append]; rfl
   rw [this]
   have := shift_pos (first := !first) ih.1 hm.1
   simp only [pastS]; omega
theorem otPast {op : Op} {line : List Op} {first : Bool} {p : Option Addr} {l c : Nat} (hO : Own G h L) (hT : Gt G) (hr : Rdl L eOp p l line) (hsm : l <= 10000) (h0 : 0 <= op.pos /\ op.pos <= 100000) (hl : ∀ l ∈ line, 0 <= l.pos /\ l.pos <= 100000)
  (hK : ∀ h' p' c' pc, Sli eOp p' l c' (pastO op line first).2 pc -> Own G h' (pc :: L) -> K (.tuple #[opV (pastO op line first).1, .slice p' l c']) h') : CallF Tryz.prog G 185 #[opV op, .slice p l c, .bool first] K Kp h := by
 refine S185_ok ?_
 have hll := hr.len hO
 unfold S185
 refine newK.go hO ?_
 clear hO; intro r10 h hO
 refine newK.go hO ?_
 clear hO; intro r11 h hO
 refine make_go tOp hO (by omega) (by omega) (by omega) λ h b pc hs hO => ?_
 simp only [Int.toNat_zero, List.replicate_zero] at hs
 simp only [Int.toNat_zero]
 refine ⟨_, _, _, rfl, ?_⟩
 refine LoopS.go (λ vs h' => ∃ (n : Nat) (p' : Option Addr) (c' : Nat) (pc : Heap) (o : Op), n <= l /\ o = (pastO op (line.take n) first).1 /\ vs = [.slice p' n c', .int .i64 n] /\ Sli eOp p' n c' (pastO op (line.take n) first).2 pc /\ Own G h' (pc :: single r11 (.cells #[.int .i64 0, .int .i64 0, .int .u8 0, .int .i64 0, .int .i64 0] 84 (0, 0)) :: single r10 (.cells #[.int .i64 o.kind, .int .i64 o.pos, .int .u8 o.ch, .int .i64 o.client, .int .i64 o.seq] 84 (0, 0)) :: L)) (λ vs _ => match vs with | [_, .int _ n] => (l - n).toNat | _ => 0) ⟨0, _, _, pc, op, by omega, rfl, rfl, hs, hO⟩ ?_
 rintro jv vs h ⟨n, p', c', pc, o, hn, ho, rfl, hs, hO⟩
 unfold S185_l3
 refine ⟨_, _, _, _, rfl, If.dec (λ hlt => ?_) (λ hlt => ?_)⟩
 ·refine Rq.go ⟨by omega, hlt⟩ ?_
  obtain ⟨x, hx, hn'⟩ := (((hr.cons _).cons _).cons _).at eOp_ok hO (i := (n : Int)) (by omega) hlt
  have hx' : line[n]? = some x := by simpa using hx
  have hxp := hl x (List.mem_of_getElem? hx')
  have hop := past_inv (first := first) h0 hl n
  rw [<- ho] at hop
  refine hn' _ λ a _ hc => ?_
  refine LdI.i (hc 0 _ rfl) (LdI.i (hc 1 _ rfl) (LdI.i (hc 2 _ rfl) (LdI.i (hc 3 _ rfl) (LdI.i (hc 4 _ rfl) ?_))))
  refine newK.go hO ?_
  clear hO; intro r28 h hO
  (repeat (first | refine NN.go ?_ | refine LdI.g hO ?_ | refine cell_g hO ?_ | refine Rq.go (by omega) ?_ | (refine st1.g hO ?_; clear hO; intro h hO; dsimp only [ad, List.set] at hO)))
  refine otShift (a := x) (b := o) hO hT (by omega) λ h hO => ?_
  refine ⟨_, _, _, _, _, rfl, newK.go hO ?_⟩
  clear hO; intro r44 h hO
  refine append1 tOp hO hs (y := shiftO x o first) rfl (by omega) λ h p2 c2 pc2 hs2 hO => ?_
  refine ⟨_, _, _, rfl, ?_⟩
  (repeat (first | refine NN.go ?_ | refine LdI.g hO ?_ | refine cell_g hO ?_ | refine Rq.go (by omega) ?_ | (refine st1.g hO ?_; clear hO; intro h hO; dsimp only [ad, List.set] at hO)))
  refine otShift (a := o) (b := x) hO hT (by omega) λ h hO => ?_
  refine ⟨_, _, _, _, _, rfl, ?_⟩
  (repeat (first | refine NN.go ?_ | refine LdI.g hO ?_ | refine cell_g hO ?_ | refine Rq.go (by omega) ?_ | (refine st1.g hO ?_; clear hO; intro h hO; dsimp only [ad, List.set] at hO)))
  have hps : pastO op (line.take (n + 1)) first = pastS first (pastO op (line.take n) first) x := by
   unfold pastO; rw [List.take_add_one, hx', List.foldl_append]; rfl
  refine ⟨⟨n + 1, _, _, pc2, shiftO o x (!first), by omega, ?_, rfl, ?_, hO.mem ?_⟩, by simp only; omega⟩
  ·rw [hps, ho]; rfl
  ·rw [hps]; simp only [pastS]; rw [<- ho]; exact hs2
  ·exact List.Sublist.cons_cons _ (List.Sublist.cons _ (List.Sublist.refl _))
 ·have hnl : n = line.length := by omega
  subst hnl
  rw [List.take_length] at hs ho
  unfold S185_k1
  (repeat (first | refine NN.go ?_ | refine LdI.g hO ?_ | refine cell_g hO ?_ | refine Rq.go (by omega) ?_ | (refine st1.g hO ?_; clear hO; intro h hO; dsimp only [ad, List.set] at hO)))
  have := hK _ _ _ _ (by rw [hll]; exact hs) (hO.mem (List.Sublist.cons_cons _ (List.Sublist.cons _ (List.Sublist.cons _ (List.Sublist.refl _)))))
  rw [<- ho, hll] at this
  exact this
end Go.Sl
set_option maxRecDepth 100000
namespace Go.Sl
open Go Go.Proofs
variable {G h : Heap} {L R : List Heap} {K : Value -> Heap -> Prop} {Kp : PK}
theorem otThrough {op : Op} {line : List Op} {first : Bool} {p : Option Addr} {l c : Nat} (hO : Own G h L) (hT : Gt G) (hr : Rdl L eOp p l line) (hsm : l <= 4096) (h0 : 0 <= op.pos /\ op.pos <= 100000) (hl : ∀ l ∈ line, 0 <= l.pos /\ l.pos <= 100000)
  (hK : ∀ h' p' c' pc, Sli eOp p' l c' (pastO op line first).2 pc -> Own G h' (pc :: L) -> K (.tuple #[opV (pastO op line first).1, .slice p' l c', .int .i64 0]) h') : CallF Tryz.prog G 177 #[opV op, .slice p l c, .bool first] K Kp h := by
 refine S177_ok ?_
 unfold S177
 refine newK.go hO ?_
 clear hO; intro r10 h hO
 refine newK.go hO ?_
 clear hO; intro r11 h hO
 refine If.dec (λ _ => by omega) λ _ => ?_
 (repeat (first | refine NN.go ?_ | refine LdI.g hO ?_ | refine cell_g hO ?_ | refine Rq.go (by omega) ?_ | (refine st1.g hO ?_; clear hO; intro h hO; dsimp only [ad, List.set] at hO)))
 refine otPast (op := op) hO hT ((hr.cons _).cons _) (by omega) h0 hl λ h p' c' pc hs hO => ?_
 refine ⟨_, _, _, _, _, _, _, _, rfl, ?_⟩
 (repeat (first | refine NN.go ?_ | refine LdI.g hO ?_ | refine cell_g hO ?_ | refine Rq.go (by omega) ?_ | (refine st1.g hO ?_; clear hO; intro h hO; dsimp only [ad, List.set] at hO)))
 exact hK _ _ _ _ hs hO.drop2.drop2
end Go.Sl
set_option maxRecDepth 100000
namespace Go.Sl
open Go Go.Proofs
variable {G h : Heap} {L R : List Heap} {K : Value -> Heap -> Prop} {Kp : PK}
theorem Sli_st {α : Type} {e : En α} (ok : e.Ok) {p : Option Addr} {l c : Nat} {xs : List α} {pc : Heap} {x y : α} {i j : Nat} {v : Value} {K : Heap -> Prop} (hO : Own G h L) (hs : Sli e p l c xs pc) (t : (pc :: R).Perm L) (hx : xs[i]? = some x) (hj : j < e.m) (hy : e.E y = (e.E x).set j v) (hv : plainV v = true)
  {a : Addr} (ha : p = some a) {k : Nat} (hk : k = a.off + i * e.m + j) (hK : ∀ h' pc', Sli e p l c (xs.set i y) pc' -> Own G h' (pc' :: R) -> K h') : st1 ⟨a.block, k, none⟩ v K h := by
 cases hs with
 | no => simp at hx
 | bk js z hz =>
  rename_i b
  cases ha
  have hO' := hO.perm t
  have hxj : (xs ++ js)[i]? = some x := by
   have hi : i < xs.length := (List.getElem?_eq_some_iff.1 hx).1
   rw [List.getElem?_append_left hi]; exact hx
  have hi : i < xs.length := (List.getElem?_eq_some_iff.1 hx).1
  have hset := En.F_set ok hxj hj hy
  have hget := En.F_get ok hxj hj
  have hlt : i * e.m + j < (e.F (xs ++ js)).length := by
   have : (e.E x)[j]? = some ((e.E x)[j]'(by rw [ok.hm]; exact hj)) := List.getElem?_eq_getElem _
   rw [this] at hget
   exact (List.getElem?_eq_some_iff.1 hget).1
  have hk' : k = i * e.m + j := by simp only [Nat.zero_add] at hk; exact hk
  subst hk'
  refine ⟨hv, _, hO'.find (Find.here b (blk e z (xs ++ js)) R), ⟨(e.F (xs ++ js))[i * e.m + j]'hlt, ?_⟩, ?_, ?_⟩
  ·simp only [ocell, blk, Option.isSome_none, Bool.false_eq_true, if_false, List.getElem?_toArray]
   exact List.getElem?_eq_getElem hlt
  ·rw [En.F_len ok] at hlt
   exact hz _ hlt
  ·have e1 : oset (blk e z (xs ++ js)) (i * e.m + j) v = blk e z (xs.set i y ++ js) := by
    have : xs.set i y ++ js = (xs ++ js).set i y := by rw [List.set_append_left _ _ hi]
    rw [this]
    simp only [blk, oset, List.setIfInBounds_toArray]
    rw [hset]
   show K (hupd h b (oset (blk e z (xs ++ js)) (i * e.m + j) v))
   rw [e1]
   have hs' := Sli.bk (e := e) (b := b) (xs := xs.set i y) js z (by rw [List.length_append, List.length_set, <- List.length_append]; exact hz)
   rw [List.length_set] at hs'
   exact hK _ _ hs' (hO'.set (Find.here b (blk e z (xs ++ js)) R) _)
end Go.Sl
set_option maxRecDepth 100000
namespace Go.Sl
open Go Go.Proofs
variable {G h : Heap} {L R : List Heap} {K : Value -> Heap -> Prop} {Kp : PK}
structure Mk where
 mark : Int
 op : Op
def eMk : En Mk := ⟨225, 6, λ x => [.int .i64 x.mark, .int .i64 x.op.kind, .int .i64 x.op.pos, .int .u8 x.op.ch, .int .i64 x.op.client, .int .i64 x.op.seq], ⟨0, ⟨0, 0, 0, 0, 0⟩⟩⟩
theorem eMk_ok : eMk.Ok := ⟨λ _ => rfl, by decide, λ x v hv => by simp [eMk] at hv; rcases hv with rfl | rfl | rfl | rfl | rfl | rfl <;> rfl⟩
theorem tMk : SlT Tryz.prog 218 eMk := ⟨eMk_ok, rfl, ⟨_, rfl, rfl, by decide, _, rfl, rfl⟩⟩
def SpaceP (p : Option Addr) (ms : List Mk) (last : Int) (first : Bool) (c : Heap) : Prop :=
 ∃ b q l k pc, p = some ⟨b, 0, none⟩ /\ Sli eMk q l k ms pc /\ JoinOf c [single b (.cells #[.slice q l k, .int .i64 last, .bool first] 223 (0, 0)), pc]
theorem spaceNew {first : Bool} (hO : Own G h L)
  (hK : ∀ h' p c, SpaceP p [] 0 first c -> Own G h' (c :: L) -> K (.pointer p) h') : CallF Tryz.prog G 88 #[.bool first] K Kp h := by
 refine S88_ok ?_
 unfold S88
 refine newK.go hO ?_
 intro r h hO
 have hO := hO.addEmp
 obtain ⟨hj, hO⟩ := Own.closeJ (cs := [_, emp]) hO
 exact hK _ _ _ ⟨_, _, _, _, _, rfl, .no, hj⟩ hO
theorem cloneMk {p : Option Addr} {l c : Nat} {ms : List Mk} (hO : Own G h L) (hr : Rdl L eMk p l ms) (hsm : l <= 100000)
  (hK : ∀ h' p' c' pc, Sli eMk p' l c' ms pc -> Own G h' (pc :: L) -> K (.slice p' l c') h') : CallF Tryz.prog G 146 #[.slice p l c] K Kp h := by
 refine S146_ok ?_
 unfold S146
 have hs := hr G h hO
 refine If.mk (λ e => ?_) (λ e => ?_)
 ·cases p with
  | some a => cases e
  | none =>
   have h0 := hs.2
   simp only at h0
   subst h0
   have hm : ms = [] := List.length_eq_zero_iff.1 hs.1.symm
   subst hm
   exact hK _ _ _ _ .no hO.addEmp0
 ·refine newK.go hO ?_
  clear hO; intro r h hO
  refine append_go tMk tMk.ud hO (.refl _) (Sli.bk (e := eMk) (b := r) (xs := []) [] (0, 0) (zok_0 _)) ((hr.cons _) _ _ hO) (by simp only [List.length_nil]; omega) λ h p1 c1 pc1 hs1 hO => ?_
  simp only [List.length_nil, Nat.zero_add, List.nil_append] at hs1 ⊢
  exact ⟨_, _, _, rfl, hK _ _ _ _ hs1 hO⟩
theorem spaceQueue {p : Option Addr} {ms : List Mk} {last : Int} {first : Bool} {c : Heap} (hO : Own G h L) [t : Take L c R] (hq : SpaceP p ms last first c) (hsm : ms.length <= 100000)
  (hK : ∀ h' p' c' pc, Sli eMk p' ms.length c' ms pc -> Own G h' (pc :: L) -> K (.slice p' ms.length c') h') : CallF Tryz.prog G 107 #[.pointer p] K Kp h := by
 refine S107_ok ?_
 unfold S107
 obtain ⟨b, q, l, k, pc, rfl, hs, hj⟩ := hq
 have hOo : Own G h (_ :: _ :: _) := (hO.perm t.perm).openJ hj
 have hl := hs.len
 subst hl
 refine NN.go (LdSl.g hOo ?_)
 have hr : Rdl L eMk q ms.length ms := λ G h hO => hs.rd (L := _ :: pc :: R) ((hO.perm t.perm).openJ hj) (List.mem_cons_of_mem _ List.mem_cons_self)
 refine cloneMk hO hr hsm λ h p' c' pc hs hO => ?_
 exact ⟨_, _, _, rfl, hK _ _ _ _ hs hO⟩
end Go.Sl
set_option maxRecDepth 100000
namespace Go.Sl
open Go Go.Proofs
variable {G h : Heap} {L R : List Heap} {K : Value -> Heap -> Prop} {Kp : PK}
theorem set5 {α : Type} {xs : List α} {i : Nat} {x y : α} : (xs.set i x).set i y = xs.set i y := by simp
theorem stOp {p : Option Addr} {l c : Nat} {xs : List Op} {pc : Heap} {x y : Op} {i : Nat} {K : Heap -> Prop} (hO : Own G h L) (hs : Sli eOp p l c xs pc) (t : (pc :: R).Perm L) (hx : xs[i]? = some x) {a : Addr} (ha : p = some a)
  (hK : ∀ h' pc', Sli eOp p l c (xs.set i y) pc' -> Own G h' (pc' :: R) -> K h') :
  st1 (a.add (i * 5)) (.int .i64 y.kind) (λ h => st1 (ad (a.add (i * 5)) 1) (.int .i64 y.pos) (λ h => st1 (ad (a.add (i * 5)) 2) (.int .u8 y.ch) (λ h => st1 (ad (a.add (i * 5)) 3) (.int .i64 y.client) (λ h => st1 (ad (a.add (i * 5)) 4) (.int .i64 y.seq) K h) h) h) h) h := by
 have hi : i < xs.length := (List.getElem?_eq_some_iff.1 hx).1
 have hsp := hs.flat a ha
 rw [add_none hsp]
 refine Sli_st eOp_ok (y := { x with kind := y.kind }) (j := 0) hO hs t hx (by decide) rfl rfl ha (by simp [eOp]) λ h pc hs hO => ?_
 have hx1 : (xs.set i { x with kind := y.kind })[i]? = some { x with kind := y.kind } := by simp [hi]
 refine Sli_st eOp_ok (y := { x with kind := y.kind, pos := y.pos }) (j := 1) hO hs (.refl _) hx1 (by decide) rfl rfl ha (by simp [eOp]) λ h pc hs hO => ?_
 rw [set5] at hs
 have hx2 : (xs.set i { x with kind := y.kind, pos := y.pos })[i]? = some { x with kind := y.kind, pos := y.pos } := by simp [hi]
 refine Sli_st eOp_ok (y := { x with kind := y.kind, pos := y.pos, ch := y.ch }) (j := 2) hO hs (.refl _) hx2 (by decide) rfl rfl ha (by simp [eOp]) λ h pc hs hO => ?_
 rw [set5] at hs
 have hx3 : (xs.set i { x with kind := y.kind, pos := y.pos, ch := y.ch })[i]? = some { x with kind := y.kind, pos := y.pos, ch := y.ch } := by simp [hi]
 refine Sli_st eOp_ok (y := { x with kind := y.kind, pos := y.pos, ch := y.ch, client := y.client }) (j := 3) hO hs (.refl _) hx3 (by decide) rfl rfl ha (by simp [eOp]) λ h pc hs hO => ?_
 rw [set5] at hs
 have hx4 : (xs.set i { x with kind := y.kind, pos := y.pos, ch := y.ch, client := y.client })[i]? = some { x with kind := y.kind, pos := y.pos, ch := y.ch, client := y.client } := by simp [hi]
 refine Sli_st eOp_ok (y := y) (j := 4) hO hs (.refl _) hx4 (by decide) rfl rfl ha (by simp [eOp]) λ h pc hs hO => ?_
 rw [set5] at hs
 exact hK _ _ hs hO
end Go.Sl
set_option maxRecDepth 100000
namespace Go.Sl
open Go Go.Proofs
variable {G h : Heap} {L R : List Heap} {K : Value -> Heap -> Prop} {Kp : PK}
theorem spaceLine {p : Option Addr} {ms : List Mk} {last : Int} {first : Bool} {c : Heap} (hO : Own G h L) [t : Take L c R] (hq : SpaceP p ms last first c) (hsm : ms.length <= 100000)
  (hK : ∀ h' p' c' pc, Sli eOp p' ms.length c' (ms.map (·.op)) pc -> Own G h' (pc :: L) -> K (.slice p' ms.length c') h') : CallF Tryz.prog G 178 #[.pointer p] K Kp h := by
 refine S178_ok ?_
 unfold S178
 obtain ⟨b, q, l, k, pc, rfl, hs, hj⟩ := hq
 have hop : ∀ (h : Heap) (M : List Heap), Own G h (M ++ L) -> Own G h (single b (.cells #[.slice q l k, .int .i64 last, .bool first] 223 (0, 0)) :: pc :: (M ++ R)) := λ h M hO => by
  have h1 : Own G h (c :: (M ++ R)) := hO.perm (by (refine perm_cnt λ a => ?_; have ht := cnt_perm t.perm a; simp only [cnt_app, List.append_eq, cnt_cons, cnt_nil] at ht ⊢; omega))
  exact h1.openJ hj
 have hl := hs.len
 subst hl
 refine NN.go (LdSl.go (hop h [] hO) (by with_unfolding_all rfl) ?_)
 refine make_go tOp hO (by omega) (by omega) (by omega) λ h bb pb hsb hO => ?_
 rw [Int.toNat_natCast] at hsb ⊢
 refine ⟨_, _, _, rfl, ?_⟩
 refine NN.go (LdSl.go (hop h [pb] hO) (by with_unfolding_all rfl) ?_)
 refine LoopS.go (λ vs h' => ∃ (n : Nat) (pb : Heap), n <= ms.length /\ vs = [.int .i64 n] /\ Sli eOp (some ⟨bb, 0, none⟩) ms.length ms.length ((ms.take n).map (·.op) ++ List.replicate (ms.length - n) eOp.z) pb /\ Own G h' (pb :: L)) (λ vs _ => match vs with | [.int _ n] => (ms.length - n).toNat | _ => 0) ⟨0, pb, by omega, rfl, by simpa using hsb, hO⟩ ?_
 clear hO hsb
 rintro jv vs h ⟨n, pb, hn, rfl, hsb, hO⟩
 unfold S178_l3
 refine ⟨_, rfl, If.dec (λ hlt => ?_) (λ hlt => ?_)⟩
 ·refine Rq.go ⟨by omega, hlt⟩ ?_
  obtain ⟨x, hx, hn'⟩ := (hs.rdl (L := _ :: pc :: ([pb] ++ R)) (List.mem_cons_of_mem _ List.mem_cons_self)).at eMk_ok (hop h [pb] hO) (i := (n : Int)) (by omega) hlt
  have hx' : ms[n]? = some x := by simpa using hx
  refine hn' _ λ a _ hc => ?_
  refine LdI.i (hc 0 _ rfl) (LdI.i (hc 1 _ rfl) (LdI.i (hc 2 _ rfl) (LdI.i (hc 3 _ rfl) (LdI.i (hc 4 _ rfl) (LdI.i (hc 5 _ rfl) ?_)))))
  refine newK.go hO ?_
  clear hO; intro r h hO
  iterate 6 (refine st1.g hO ?_; clear hO; intro h hO; dsimp only [ad, List.set] at hO)
  iterate 5 (refine LdI.g hO ?_)
  refine Rq.go (by omega) (NN.go ?_)
  have hz : ((ms.take n).map (·.op) ++ List.replicate (ms.length - n) eOp.z)[n]? = some eOp.z := by
   rw [List.getElem?_append_right (by simp <;> omega), List.length_map, List.length_take, Nat.min_eq_left hn, Nat.sub_self, List.getElem?_replicate, if_pos (by omega)]
  refine stOp (y := x.op) hO hsb (R := _ :: L) (List.Perm.swap _ _ _) hz rfl λ h pb hsb hO => ?_
  refine Rng.go (by omega) ⟨⟨n + 1, pb, by omega, rfl, ?_, hO.drop2⟩, by simp only; omega⟩
  have hset : ((ms.take n).map (·.op) ++ List.replicate (ms.length - n) eOp.z).set n x.op = (ms.take (n + 1)).map (·.op) ++ List.replicate (ms.length - (n + 1)) eOp.z := by
   rw [List.set_append_right _ _ (by simp <;> omega), List.length_map, List.length_take, Nat.min_eq_left hn, Nat.sub_self, List.take_add_one, hx', show ms.length - n = (ms.length - (n + 1)) + 1 by omega, List.replicate_succ, List.set_cons_zero]
   simp
  rw [hset] at hsb; exact hsb
 ·have hnl : n = ms.length := by omega
  subst hnl
  unfold S178_k1
  refine hK _ _ _ _ ?_ hO
  simpa using hsb
end Go.Sl
set_option maxRecDepth 100000
namespace Go.Sl
open Go Go.Proofs
variable {G h : Heap} {L R : List Heap} {K : Value -> Heap -> Prop} {Kp : PK}
theorem stMk {p : Option Addr} {l c : Nat} {xs : List Mk} {pc : Heap} {x : Mk} {y : Op} {i : Nat} {K : Heap -> Prop} (hO : Own G h L) (hs : Sli eMk p l c xs pc) [t : Take L pc R] (hx : xs[i]? = some x) {a : Addr} (ha : p = some a)
  (hK : ∀ h' pc', Sli eMk p l c (xs.set i ⟨x.mark, y⟩) pc' -> Own G h' (pc' :: R) -> K h') :
  st1 (ad (a.add (i * 6)) 1) (.int .i64 y.kind) (λ h => st1 (ad (ad (a.add (i * 6)) 1) 1) (.int .i64 y.pos) (λ h => st1 (ad (ad (a.add (i * 6)) 1) 2) (.int .u8 y.ch) (λ h => st1 (ad (ad (a.add (i * 6)) 1) 3) (.int .i64 y.client) (λ h => st1 (ad (ad (a.add (i * 6)) 1) 4) (.int .i64 y.seq) K h) h) h) h) h := by
 have hi : i < xs.length := (List.getElem?_eq_some_iff.1 hx).1
 have hsp := hs.flat a ha
 obtain ⟨mk, o⟩ := x
 rw [add_none hsp]
 have hg : ∀ o' : Op, (xs.set i ⟨mk, o'⟩)[i]? = some ⟨mk, o'⟩ := λ o' => by simp [hi]
 refine Sli_st eMk_ok (y := ⟨mk, { o with kind := y.kind }⟩) (j := 1) hO hs t.perm hx (by decide) rfl rfl ha (by simp [eMk]) λ h pc hs hO => ?_
 refine Sli_st eMk_ok (y := ⟨mk, { o with kind := y.kind, pos := y.pos }⟩) (j := 2) hO hs (.refl _) (hg _) (by decide) rfl rfl ha (by simp [eMk]) λ h pc hs hO => ?_
 rw [set5] at hs
 refine Sli_st eMk_ok (y := ⟨mk, { o with kind := y.kind, pos := y.pos, ch := y.ch }⟩) (j := 3) hO hs (.refl _) (hg _) (by decide) rfl rfl ha (by simp [eMk]) λ h pc hs hO => ?_
 rw [set5] at hs
 refine Sli_st eMk_ok (y := ⟨mk, { o with kind := y.kind, pos := y.pos, ch := y.ch, client := y.client }⟩) (j := 4) hO hs (.refl _) (hg _) (by decide) rfl rfl ha (by simp [eMk]) λ h pc hs hO => ?_
 rw [set5] at hs
 refine Sli_st eMk_ok (y := ⟨mk, y⟩) (j := 5) hO hs (.refl _) (hg _) (by decide) rfl rfl ha (by simp [eMk]) λ h pc hs hO => ?_
 rw [set5] at hs
 exact hK _ _ hs hO
theorem spaceThrough {p : Option Addr} {ms : List Mk} {last : Int} {first : Bool} {c : Heap} {op : Op} (hT : Gt G) (hO : Own G h L) [t : Take L c R] (hq : SpaceP p ms last first c) (hsm : ms.length <= 4096) (hc : 0 <= op.ch /\ op.ch < 256) (hv : validE op = 0) (h0 : 0 <= op.pos /\ op.pos <= 100000) (hl : ∀ l ∈ ms.map (·.op), 0 <= l.pos /\ l.pos <= 100000)
  (hK : ∀ h' p' c' pc, Sli eOp p' ms.length c' (pastO op (ms.map (·.op)) first).2 pc -> Own G h' (pc :: L) -> K (.tuple #[opV (pastO op (ms.map (·.op)) first).1, .slice p' ms.length c', .int .i64 0]) h') : CallF Tryz.prog G 147 #[.pointer p, opV op] K Kp h := by
 refine S147_ok ?_
 unfold S147
 refine newK.go hO ?_
 clear hO; intro r1 h hO
 refine newK.go hO ?_
 clear hO; intro r2 h hO
 (repeat (first | refine NN.go ?_ | refine LdI.g hO ?_ | refine cell_g hO ?_ | refine Rq.go (by omega) ?_ | (refine st1.g hO ?_; clear hO; intro h hO; dsimp only [ad, List.set] at hO)))
 refine docValid (o := op) hO hc λ h hO => ⟨_, rfl, If.f (by rw [hv]; rfl) ?_⟩
 (repeat (first | refine NN.go ?_ | refine LdI.g hO ?_ | refine cell_g hO ?_ | refine Rq.go (by omega) ?_ | (refine st1.g hO ?_; clear hO; intro h hO; dsimp only [ad, List.set] at hO)))
 obtain ⟨b, q, l, k, pc, hp, hs, hj⟩ := id hq
 subst hp
 have hop : ∀ (h : Heap) (M : List Heap), Own G h (M ++ L) -> Own G h (single b (.cells #[.slice q l k, .int .i64 last, .bool first] 223 (0, 0)) :: pc :: (M ++ R)) := λ h M hO => by
  have h1 : Own G h (c :: (M ++ R)) := hO.perm (by (refine perm_cnt λ a => ?_; have ht := cnt_perm t.perm a; simp only [cnt_app, List.append_eq, cnt_cons, cnt_nil] at ht ⊢; omega))
  exact Own.openJ h1 hj
 (repeat (first | refine NN.go ?_ | refine LdI.g hO ?_ | refine cell_g hO ?_ | refine Rq.go (by omega) ?_ | (refine st1.g hO ?_; clear hO; intro h hO; dsimp only [ad, List.set] at hO)))
 refine LdB.go (hop h [_, _] hO) (by with_unfolding_all rfl) ?_
 refine spaceLine hO hq (by omega) λ h p1 c1 pc1 hs1 hO => ?_
 refine ⟨_, _, _, rfl, ?_⟩
 refine cell_go (hop h [_, _, _] hO) (by with_unfolding_all rfl) ?_
 (repeat (first | refine NN.go ?_ | refine LdI.g hO ?_ | refine cell_g hO ?_ | refine Rq.go (by omega) ?_ | (refine st1.g hO ?_; clear hO; intro h hO; dsimp only [ad, List.set] at hO)))
 refine otThrough (op := op) hO hT (hs1.rdl (by simp)) (by omega) h0 hl λ h p' c' pc' hs' hO => ?_
 refine ⟨_, _, _, _, _, _, _, _, _, rfl, ?_⟩
 (repeat (first | refine NN.go ?_ | refine LdI.g hO ?_ | refine cell_g hO ?_ | refine Rq.go (by omega) ?_ | (refine st1.g hO ?_; clear hO; intro h hO; dsimp only [ad, List.set] at hO)))
 exact hK _ _ _ _ hs' (hO.mem (List.Sublist.cons_cons _ (List.Sublist.cons _ (List.Sublist.cons _ (List.Sublist.cons _ (List.Sublist.refl _))))))
theorem spaceLook {p : Option Addr} {ms : List Mk} {last : Int} {first : Bool} {c : Heap} {op : Op} (hT : Gt G) (hO : Own G h L) [t : Take L c R] (hq : SpaceP p ms last first c) (hsm : ms.length <= 4096) (hc : 0 <= op.ch /\ op.ch < 256) (hv : validE op = 0) (h0 : 0 <= op.pos /\ op.pos <= 100000) (hl : ∀ l ∈ ms.map (·.op), 0 <= l.pos /\ l.pos <= 100000)
  (hK : ∀ h', Own G h' L -> K (.tuple #[opV (pastO op (ms.map (·.op)) first).1, .int .i64 0]) h') : CallF Tryz.prog G 184 #[.pointer p, opV op] K Kp h := by
 refine S184_ok ?_
 unfold S184
 refine newK.go hO ?_
 clear hO; intro r1 h hO
 refine newK.go hO ?_
 clear hO; intro r2 h hO
 (repeat (first | refine NN.go ?_ | refine LdI.g hO ?_ | refine cell_g hO ?_ | refine Rq.go (by omega) ?_ | (refine st1.g hO ?_; clear hO; intro h hO; dsimp only [ad, List.set] at hO)))
 refine spaceThrough hT hO hq hsm hc hv h0 hl λ h p' c' pc' hs' hO => ?_
 refine ⟨_, _, _, _, _, _, _, _, _, rfl, ?_⟩
 refine newK.go hO ?_
 clear hO; intro r3 h hO
 (repeat (first | refine NN.go ?_ | refine LdI.g hO ?_ | refine cell_g hO ?_ | refine Rq.go (by omega) ?_ | (refine st1.g hO ?_; clear hO; intro h hO; dsimp only [ad, List.set] at hO)))
 exact hK _ (hO.mem (by
  refine List.Sublist.cons _ (List.Sublist.cons _ (List.Sublist.cons _ (List.Sublist.cons _ (List.Sublist.refl _))))))
def remk (ms : List Mk) (ops : List Op) : List Mk := ms.zipWith (λ m o => ⟨m.mark, o⟩) ops
theorem remk_take {ms : List Mk} {ops : List Op} {n : Nat} {m : Mk} {o : Op} (h1 : ms[n]? = some m) (h2 : ops[n]? = some o) : (remk (ms.take n) (ops.take n) ++ ms.drop n).set n ⟨m.mark, o⟩ = remk (ms.take (n + 1)) (ops.take (n + 1)) ++ ms.drop (n + 1) := by
 have hl1 := (List.getElem?_eq_some_iff.1 h1).1
 have hl2 := (List.getElem?_eq_some_iff.1 h2).1
 have e : (remk (ms.take n) (ops.take n)).length = n := by simp [remk]; omega
 rw [List.set_append_right _ _ (by omega), e, Nat.sub_self, List.take_add_one, List.take_add_one, h1, h2, List.drop_eq_getElem_cons hl1, List.set_cons_zero]
 unfold remk
 simp only [Option.toList_some]
 rw [List.zipWith_append (by simp; omega)]
 simp
theorem spaceCross {p : Option Addr} {ms : List Mk} {last : Int} {first : Bool} {c : Heap} {op : Op} (hT : Gt G) (hO : Own G h L) [t : Take L c R] (hq : SpaceP p ms last first c) (hsm : ms.length <= 4096) (hc : 0 <= op.ch /\ op.ch < 256) (hv : validE op = 0) (h0 : 0 <= op.pos /\ op.pos <= 100000) (hl : ∀ l ∈ ms.map (·.op), 0 <= l.pos /\ l.pos <= 100000)
  (hlen : (pastO op (ms.map (·.op)) first).2.length = ms.length)
  (hK : ∀ h' c', SpaceP p (remk ms (pastO op (ms.map (·.op)) first).2) last first c' -> Own G h' (c' :: R) -> K (.tuple #[opV (pastO op (ms.map (·.op)) first).1, .int .i64 0]) h') : CallF Tryz.prog G 111 #[.pointer p, opV op] K Kp h := by
 refine S111_ok ?_
 unfold S111
 refine newK.go hO ?_
 clear hO; intro r1 h hO
 refine newK.go hO ?_
 clear hO; intro r2 h hO
 (repeat (first | refine NN.go ?_ | refine LdI.g hO ?_ | refine cell_g hO ?_ | refine Rq.go (by omega) ?_ | (refine st1.g hO ?_; clear hO; intro h hO; dsimp only [ad, List.set] at hO)))
 refine spaceThrough hT hO hq hsm hc hv h0 hl λ h p' c' pf hs' hO => ?_
 refine ⟨_, _, _, _, _, _, _, _, _, rfl, ?_⟩
 refine newK.go hO ?_
 clear hO; intro r3 h hO
 (repeat (first | refine NN.go ?_ | refine LdI.g hO ?_ | refine cell_g hO ?_ | refine Rq.go (by omega) ?_ | (refine st1.g hO ?_; clear hO; intro h hO; dsimp only [ad, List.set] at hO)))
 generalize hg : pastO op (ms.map (·.op)) first = res at *
 obtain ⟨out, fs⟩ := res
 obtain ⟨b, q, l, k, pc, hp, hs, hj⟩ := id hq
 subst hp
 have hln := hs.len
 subst hln
 have hO : Own G h _ := (hO.perm (M := c :: (single r3 (.cells #[.int .i64 out.kind, .int .i64 out.pos, .int .u8 out.ch, .int .i64 out.client, .int .i64 out.seq] 84 (0, 0)) :: pf :: single r2 (.cells #[.int .i64 0, .int .i64 0, .int .u8 0, .int .i64 0, .int .i64 0] 84 (0, 0)) :: single r1 (.cells #[.int .i64 op.kind, .int .i64 op.pos, .int .u8 op.ch, .int .i64 op.client, .int .i64 op.seq] 84 (0, 0)) :: R)) (by (refine perm_cnt λ a => ?_; have ht := cnt_perm t.perm a; simp only [cnt_app, List.append_eq, cnt_cons, cnt_nil] at ht ⊢; omega))).openJ hj
 refine LoopS.go (λ vs h' => ∃ (n : Nat) (pc : Heap), n <= ms.length /\ vs = [.int .i64 n] /\ Sli eMk q ms.length k (remk (ms.take n) (fs.take n) ++ ms.drop n) pc /\ Own G h' (single b (.cells #[.slice q ms.length k, .int .i64 last, .bool first] 223 (0, 0)) :: pc :: single r3 (.cells #[.int .i64 out.kind, .int .i64 out.pos, .int .u8 out.ch, .int .i64 out.client, .int .i64 out.seq] 84 (0, 0)) :: pf :: single r2 (.cells #[.int .i64 0, .int .i64 0, .int .u8 0, .int .i64 0, .int .i64 0] 84 (0, 0)) :: R)) (λ vs _ => match vs with | [.int _ n] => (ms.length - n).toNat | _ => 0) ⟨0, pc, by omega, rfl, by simpa [remk] using hs, hO.mem ?_⟩ ?_
 ·refine List.Sublist.cons_cons _ (List.Sublist.cons_cons _ (List.Sublist.cons_cons _ (List.Sublist.cons_cons _ (List.Sublist.cons_cons _ (List.Sublist.cons _ (List.Sublist.refl _))))))
 clear hO hs
 rintro jv vs h ⟨n, pc, hn, rfl, hs, hO⟩
 unfold S111_l5
 refine ⟨_, rfl, If.dec (λ hlt => ?_) (λ hlt => ?_)⟩
 ·refine Rq.go ⟨by omega, hlt⟩ ?_
  obtain ⟨x, hx, hn'⟩ := (hs'.rdl (L := _ :: pc :: _ :: pf :: _ :: R) (List.mem_cons_of_mem _ (List.mem_cons_of_mem _ (List.mem_cons_of_mem _ List.mem_cons_self)))).at eOp_ok hO (i := (n : Int)) (by omega) hlt
  have hx' : fs[n]? = some x := by simpa using hx
  refine hn' _ λ a _ hc => ?_
  refine LdI.i (hc 0 _ rfl) (LdI.i (hc 1 _ rfl) (LdI.i (hc 2 _ rfl) (LdI.i (hc 3 _ rfl) (LdI.i (hc 4 _ rfl) ?_))))
  refine newK.go hO ?_
  clear hO; intro r h hO
  iterate 5 (refine st1.g hO ?_; clear hO; intro h hO; dsimp only [ad, List.set] at hO)
  refine NN.go (LdSl.g hO ?_)
  iterate 5 (refine LdI.g hO ?_)
  refine Rq.go (by omega) ?_
  have hnl : n < ms.length := by omega
  obtain ⟨bq, rfl⟩ := Sli_ex hs (by omega)
  refine NN.go ?_
  have e0 : (remk (ms.take n) (fs.take n)).length = n := by simp [remk]; simp only at hlen; omega
  have hm : ms[n]? = some ms[n] := List.getElem?_eq_getElem hnl
  have hz : (remk (ms.take n) (fs.take n) ++ ms.drop n)[n]? = some ms[n] := by
   rw [List.getElem?_append_right (by omega), e0, Nat.sub_self, List.getElem?_drop, Nat.add_zero, hm]
  refine stMk (y := x) hO hs hz rfl λ h pc hs hO => ?_
  rw [remk_take hm hx'] at hs
  refine Rng.go (by omega) ⟨⟨n + 1, pc, by omega, rfl, hs, by (refine hO.sp λ a => ?_; simp only [cnt_app, List.append_eq, cnt_cons, cnt_nil]; omega)⟩, by simp only; omega⟩
 ·have hnl : n = ms.length := by omega
  subst hnl
  unfold S111_k1
  (repeat (first | refine NN.go ?_ | refine LdI.g hO ?_ | refine cell_g hO ?_ | refine Rq.go (by omega) ?_ | (refine st1.g hO ?_; clear hO; intro h hO; dsimp only [ad, List.set] at hO)))
  have hfs : fs.take ms.length = fs := List.take_of_length_le (by simp only at hlen; omega)
  rw [List.take_length, hfs, List.drop_length, List.append_nil] at hs
  obtain ⟨hj, hO⟩ := Own.closeJ (cs := [_, pc]) (hO.mem (List.Sublist.cons_cons _ (List.Sublist.cons_cons _ (List.Sublist.cons _ (List.Sublist.cons _ (List.Sublist.cons _ (List.Sublist.refl _)))))))
  exact hK _ _ ⟨b, q, _, k, pc, rfl, hs, hj⟩ hO
end Go.Sl
set_option maxRecDepth 100000
namespace Go.Sl
open Go Go.Proofs
variable {G h : Heap} {L R : List Heap} {K : Value -> Heap -> Prop} {Kp : PK}
def dropM (t : Int) (ms : List Mk) : List Mk := ms.dropWhile λ m => decide (m.mark <= t)
theorem dropM_eq {t : Int} {ms : List Mk} {n : Nat} (hn : n <= ms.length) (h1 : ∀ i m, i < n -> ms[i]? = some m -> m.mark <= t) (h2 : ∀ m, ms[n]? = some m -> t < m.mark) : dropM t ms = ms.drop n := by
 unfold dropM
 induction n generalizing ms with
 | zero =>
  cases ms with
  | nil => rfl
  | cons m ms => have := h2 m rfl; rw [List.dropWhile_cons, if_neg (by simp; omega)]; rfl
 | succ n ih =>
  cases ms with
  | nil => simp at hn
  | cons m ms =>
   have := h1 0 m (by omega) rfl
   rw [List.dropWhile_cons, if_pos (by simpa using this), List.drop_succ_cons]
   exact ih (by simpa using hn) (λ i m hi hm => h1 (i + 1) m (by omega) (by simpa using hm)) (λ m hm => h2 m (by simpa using hm))
theorem spaceDropTo {p : Option Addr} {ms : List Mk} {last mark : Int} {first : Bool} {c : Heap} (hO : Own G h L) [t : Take L c R] (hq : SpaceP p ms last first c) (hsm : ms.length <= 4096)
  (hK : ∀ h' c' n, SpaceP p (dropM mark ms) last first c' -> Own G h' (c' :: R) -> K (.int .i64 n) h') : CallF Tryz.prog G 110 #[.pointer p, .int .i64 mark] K Kp h := by
 refine S110_ok ?_
 unfold S110
 obtain ⟨b, q, l, k, pc, rfl, hs, hj⟩ := hq
 (have hO := (hO.perm t.perm).openJ hj; simp only [List.cons_append, List.nil_append] at hO)
 have hln := hs.len
 subst hln
 refine LoopS.go (λ vs h' => h' = h /\ ∃ n : Nat, n <= ms.length /\ vs = [.int .i64 n] /\ ∀ i m, i < n -> ms[i]? = some m -> m.mark <= mark) (λ vs _ => match vs with | [.int _ n] => (ms.length - n).toNat | _ => 0) ⟨rfl, 0, by omega, rfl, λ i m hi => by omega⟩ ?_
 rintro jv vs h' ⟨rfl, n, hn, rfl, hm⟩
 unfold S110_l2
 have fin : (∀ m, ms[n]? = some m -> mark < m.mark) -> S110_k2 G K Kp (some ⟨b, 0, none⟩) n h' := λ h2 => by
  unfold S110_k2
  refine NN.go (LdSl.go hO (by with_unfolding_all rfl) (Rq.go (by omega) ?_))
  have hr := (hs.rdO hO (by simp)).cut eMk_ok hs.flat n (ms.length - n) (by omega) hs.cap
  rw [List.take_of_length_le (by simp)] at hr
  refine cloneMk hO hr (by omega) λ h p' c' pc' hs' hO => ?_
  refine ⟨_, _, _, rfl, NN.go ?_⟩
  (refine st1.g hO ?_; clear hO; intro h hO)
  dsimp only [ad, List.set] at hO
  rw [Int.toNat_natCast] at hO
  rw [<- dropM_eq hn hm h2] at hs'
  have hO : Own G h ([single b (.cells #[.slice p' (ms.length - n) c', .int .i64 last, .bool first] 223 (0, 0)), pc'] ++ R) := by (refine hO.sp λ a => ?_; simp only [cnt_app, List.append_eq, cnt_cons, cnt_nil]; omega)
  obtain ⟨hj, hO⟩ := Own.closeJ hO
  exact hK _ _ _ ⟨b, _, _, _, _, rfl, hs', hj⟩ hO
 refine ⟨_, rfl, NN.go (LdSl.go hO (by with_unfolding_all rfl) (If.dec (λ hlt => ?_) (λ hlt => ?_)))⟩
 ·refine NN.go (LdSl.go hO (by with_unfolding_all rfl) (Rq.go ⟨by omega, hlt⟩ ?_))
  obtain ⟨x, hx, hn'⟩ := (hs.rdO hO (by simp)).at eMk_ok hO (i := (n : Int)) (by omega) hlt
  have hx' : ms[n]? = some x := by simpa using hx
  refine hn' _ λ a _ hc => ?_
  refine LdI.i (hc 0 _ rfl) ?_
  unfold S110_k1
  refine If.dec (λ hle => ?_) (λ hle => ?_)
  ·refine Rng.go (by omega) ⟨⟨rfl, n + 1, by omega, rfl, λ i m hi he => ?_⟩, by simp only; omega⟩
   rcases Nat.lt_or_ge i n with h1 | h1
   ·exact hm i m h1 he
   ·have : i = n := by omega
    subst this
    rw [hx'] at he; cases he; exact hle
  ·exact fin λ m he => by rw [hx'] at he; cases he; omega
 ·unfold S110_k1
  refine If.f rfl ?_
  exact fin λ m he => by have := (List.getElem?_eq_some_iff.1 he).1; omega
theorem spaceKeep {p : Option Addr} {ms : List Mk} {last mark : Int} {first : Bool} {c : Heap} {op : Op} (hO : Own G h L) [t : Take L c R] (hq : SpaceP p ms last first c) (hsm : ms.length <= 4096) (hc : 0 <= op.ch /\ op.ch < 256) (hv : validE op = 0) (hm : last < mark /\ mark <= 4096)
  (hK : ∀ h' c', SpaceP p (ms ++ [⟨mark, op⟩]) mark first c' -> Own G h' (c' :: R) -> K (.int .i64 0) h') : CallF Tryz.prog G 112 #[.pointer p, .int .i64 mark, opV op] K Kp h := by
 refine S112_ok ?_
 unfold S112
 obtain ⟨b, q, l, k, pc, rfl, hs, hj⟩ := hq
 (have hO := (hO.perm t.perm).openJ hj; simp only [List.cons_append, List.nil_append] at hO)
 have hln := hs.len
 subst hln
 (refine newK.go hO ?_; clear hO; intro r h hO)
 (repeat (first | refine NN.go ?_ | refine LdI.g hO ?_ | refine cell_g hO ?_ | refine Rq.go (by omega) ?_ | (refine st1.g hO ?_; clear hO; intro h hO; dsimp only [ad, List.set] at hO)))
 refine docValid (o := op) hO hc λ h hO => ⟨_, rfl, If.f (by rw [hv]; rfl) ?_⟩
 (repeat (first | refine NN.go ?_ | refine LdI.g hO ?_ | refine cell_g hO ?_ | refine Rq.go (by omega) ?_ | (refine st1.g hO ?_; clear hO; intro h hO; dsimp only [ad, List.set] at hO)))
 refine If.dec (λ e => by omega) λ _ => ?_
 unfold S112_k1
 refine If.dec (λ e => by omega) λ _ => ?_
 refine NN.go (LdSl.g hO ?_)
 (repeat (first | refine NN.go ?_ | refine LdI.g hO ?_ | refine cell_g hO ?_ | refine Rq.go (by omega) ?_ | (refine st1.g hO ?_; clear hO; intro h hO; dsimp only [ad, List.set] at hO)))
 (refine newK.go hO ?_; clear hO; intro r h hO)
 refine cell_g hO ?_
 refine append1 tMk hO hs (y := ⟨mark, op⟩) rfl (by omega) λ h p2 c2 pc2 hs2 hO => ?_
 refine ⟨_, _, _, rfl, ?_⟩
 (repeat (first | refine NN.go ?_ | refine LdI.g hO ?_ | refine cell_g hO ?_ | refine Rq.go (by omega) ?_ | (refine st1.g hO ?_; clear hO; intro h hO; dsimp only [ad, List.set] at hO)))
 have hO : Own G h ([single b (.cells #[.slice p2 (ms.length + 1) c2, .int .i64 mark, .bool first] 223 (0, 0)), pc2] ++ R) := by (refine hO.sp λ a => ?_; simp only [cnt_app, List.append_eq, cnt_cons, cnt_nil]; omega)
 obtain ⟨hj, hO⟩ := Own.closeJ hO
 exact hK _ _ ⟨b, _, _, _, _, rfl, hs2, hj⟩ hO
end Go.Sl
set_option maxRecDepth 100000
namespace Go.Sl
open Go Go.Proofs
variable {G h : Heap} {L R : List Heap} {K : Value -> Heap -> Prop} {Kp : PK}
structure Ed where
 tag : Int
 op : Op
def eEd : En Ed := ⟨124, 6, λ x => [.int .i64 x.tag, .int .i64 x.op.kind, .int .i64 x.op.pos, .int .u8 x.op.ch, .int .i64 x.op.client, .int .i64 x.op.seq], ⟨0, ⟨0, 0, 0, 0, 0⟩⟩⟩
theorem eEd_ok : eEd.Ok := ⟨λ _ => rfl, by decide, λ x v hv => by simp [eEd] at hv; rcases hv with rfl | rfl | rfl | rfl | rfl | rfl <;> rfl⟩
theorem tEd : SlT Tryz.prog 33 eEd := ⟨eEd_ok, rfl, ⟨_, rfl, rfl, by decide, _, rfl, rfl⟩⟩
def edV (x : Ed) : Value := .agg #[.int .i64 x.tag, .int .i64 x.op.kind, .int .i64 x.op.pos, .int .u8 x.op.ch, .int .i64 x.op.client, .int .i64 x.op.seq]
def OutP (p : Option Addr) (left : List Ed) (c : Heap) : Prop :=
 ∃ b q l k pc, p = some ⟨b, 0, none⟩ /\ Sli eEd q l k left pc /\ JoinOf c [single b (.cells #[.int .i64 8, .int .i64 0, .int .i64 0, .slice q l k] 261 (0, 0)), pc]
theorem outNew (hO : Own G h L)
  (hK : ∀ h' p c, OutP p [] c -> Own G h' (c :: L) -> K (.tuple #[.pointer p, .int .i64 0]) h') : CallF Tryz.prog G 93 #[.int .i64 8] K Kp h := by
 refine S93_ok ?_
 unfold S93
 refine If.f rfl ?_
 unfold S93_k1
 refine If.f rfl ?_
 (refine newK.go hO ?_; clear hO; intro r h hO)
 obtain ⟨hj, hO⟩ := Own.closeJ (cs := [_, emp]) hO.addEmp
 exact hK _ _ _ ⟨_, _, _, _, _, rfl, .no, hj⟩ hO
theorem outSent {p : Option Addr} {left : List Ed} {c : Heap} (hO : Own G h L) [t : Take L c R] (hq : OutP p left c)
  (hK : K (.int .i64 0) h) : CallF Tryz.prog G 168 #[.pointer p] K Kp h := by
 refine S168_ok ?_
 unfold S168
 obtain ⟨b, q, l, k, pc, rfl, hs, hj⟩ := hq
 (have hO := (hO.perm t.perm).openJ hj; simp only [List.cons_append, List.nil_append] at hO)
 (repeat (first | refine NN.go ?_ | refine LdI.g hO ?_ | refine cell_g hO ?_ | refine Rq.go (by omega) ?_ | (refine st1.g hO ?_; clear hO; intro h hO; dsimp only [ad, List.set] at hO)))
 exact hK
theorem outPush {p : Option Addr} {left : List Ed} {c : Heap} {e : Ed} (hO : Own G h L) [t : Take L c R] (hq : OutP p left c) (hsm : left.length < 4096)
  (hK : ∀ h' c', OutP p (left ++ [e]) c' -> Own G h' (c' :: R) -> K (.tuple #[.int .i64 (left.length + 1), .int .i64 0]) h') : CallF Tryz.prog G 143 #[.pointer p, edV e] K Kp h := by
 have last : ∀ {b : Nat} {q : Option Addr} {l k : Nat} {h : Heap} {M : List Heap} {K : Value -> Heap -> Prop}, Own G h (single b (.cells #[.int .i64 8, .int .i64 0, .int .i64 0, .slice q l k] 261 (0, 0)) :: M) -> l <= 5000 -> K (.int .i64 l) h -> CallF Tryz.prog G 176 #[.pointer (some ⟨b, 0, none⟩)] K Kp h := λ hO hl hK => by
  refine S176_ok ?_
  unfold S176
  refine NN.go (LdI.go hO (by with_unfolding_all rfl) (NN.go (LdSl.go hO (by with_unfolding_all rfl) (Rng.go (by omega) ?_))))
  rw [Int.zero_add]; exact hK
 refine S143_ok ?_
 unfold S143
 obtain ⟨b, q, l, k, pc, rfl, hs, hj⟩ := hq
 (have hO := (hO.perm t.perm).openJ hj; simp only [List.cons_append, List.nil_append] at hO)
 have hln := hs.len
 subst hln
 refine newK.go hO ?_
 intro r h hO
 refine last (hO.perm (List.Perm.swap _ _ _)) (by omega) ⟨_, rfl, If.f (by simp; omega) ?_⟩
 refine NN.go (LdSl.g hO ?_)
 (repeat (first | refine NN.go ?_ | refine LdI.g hO ?_ | refine cell_g hO ?_ | refine Rq.go (by omega) ?_ | (refine st1.g hO ?_; clear hO; intro h hO; dsimp only [ad, List.set] at hO)))
 (refine newK.go hO ?_; clear hO; intro r h hO)
 refine cell_g hO ?_
 refine append1 tEd hO hs (y := e) rfl (by omega) λ h p2 c2 pc2 hs2 hO => ?_
 refine ⟨_, _, _, rfl, ?_⟩
 (repeat (first | refine NN.go ?_ | refine LdI.g hO ?_ | refine cell_g hO ?_ | refine Rq.go (by omega) ?_ | (refine st1.g hO ?_; clear hO; intro h hO; dsimp only [ad, List.set] at hO)))
 refine last (l := left.length + 1) (q := p2) (k := c2) (M := pc2 :: R) (by (refine hO.sp λ a => ?_; simp only [cnt_app, List.append_eq, cnt_cons, cnt_nil]; omega)) (by omega) ⟨_, rfl, ?_⟩
 have hO : Own G h ([single b (.cells #[.int .i64 8, .int .i64 0, .int .i64 0, .slice p2 (left.length + 1) c2] 261 (0, 0)), pc2] ++ R) := by (refine hO.sp λ a => ?_; simp only [cnt_app, List.append_eq, cnt_cons, cnt_nil]; omega)
 obtain ⟨hj, hO⟩ := Own.closeJ hO
 exact hK _ _ ⟨b, _, _, _, _, rfl, hs2, hj⟩ hO
theorem outAck {p : Option Addr} {left : List Ed} {c : Heap} (hO : Own G h L) [t : Take L c R] (hq : OutP p left c)
  (hK : K (.int .i64 0) h) : CallF Tryz.prog G 137 #[.pointer p, .int .i64 0] K Kp h := by
 refine S137_ok ?_
 unfold S137
 obtain ⟨b, q, l, k, pc, rfl, hs, hj⟩ := hq
 (have hO := (hO.perm t.perm).openJ hj; simp only [List.cons_append, List.nil_append] at hO)
 refine If.f rfl ?_
 (repeat (first | refine NN.go ?_ | refine LdI.g hO ?_ | refine cell_g hO ?_ | refine Rq.go (by omega) ?_ | (refine st1.g hO ?_; clear hO; intro h hO; dsimp only [ad, List.set] at hO)))
 exact hK
theorem outReset {p : Option Addr} {left : List Ed} {c : Heap} (hO : Own G h L) [t : Take L c R] (hq : OutP p left c)
  (hK : ∀ h' c', OutP p [] c' -> Own G h' (c' :: R) -> K (.tuple #[]) h') : CallF Tryz.prog G 172 #[.pointer p] K Kp h := by
 refine S172_ok ?_
 unfold S172
 obtain ⟨b, q, l, k, pc, rfl, hs, hj⟩ := hq
 (have hO := (hO.perm t.perm).openJ hj; simp only [List.cons_append, List.nil_append] at hO)
 (repeat (first | refine NN.go ?_ | refine LdI.g hO ?_ | refine cell_g hO ?_ | refine Rq.go (by omega) ?_ | (refine st1.g hO ?_; clear hO; intro h hO; dsimp only [ad, List.set] at hO)))
 obtain ⟨hj, hO⟩ := Own.closeJ (cs := [_, emp]) (Own.addEmp (Own.drop2 hO))
 exact hK _ _ ⟨b, _, _, _, _, rfl, .no, hj⟩ hO
theorem eqI_pr {P : Program} {t : TypeId} {k : IntKind} {x y : Int} (hu : P.underlying t = some (.int k)) (d : Nat) : pr P (Op.equalIn (d + 1) t (.int k x) (.int k y)) = some (decide (x = y)) := by
 simp only [Op.equalIn, pr_bind, pr_underlying hu, Option.bind_some, if_true, pr_pure]
 rfl
theorem bitsI_ok {k : IntKind} {x : Int} (d : Nat) : Instr.sameBits (d + 1) (.int k x) (.int k x) = true := by
 simp [Instr.sameBits]
def eHe : KV Int Op := ⟨λ x => .int .i64 x, opV, ⟨0, 0, 0, 0, 0⟩⟩
noncomputable def tHe : MapT Tryz.prog 262 eHe where
 kt := 3
 et := 84
 kd := _
 ud := rfl
 kud := rfl
 zer := by rfl
 ck := λ b x => rfl
 eq := λ x y => eqI_pr rfl 9999
 now := .inl λ x y => rfl
 bits := λ x => bitsI_ok 9999
theorem mmake_go {P : Program} {t : TypeId} {κ β : Type} (e : KV κ β) (hO : Own G h L) (hK : ∀ h' r, Own G h' (single r (mpO e [] 0) :: L) -> K (.map (some r)) h') : slV P G (Instr.makeMap t none) K Kp h := by
 intro r h1 h2
 exact hK _ _ (hO.new h1 h2 _)
def heldL (cum : Int) : Option Op -> Nat -> Ents Int Op
 | none, _ => []
 | some o, b => [(cum + 1, o, b)]
def InP (p : Option Addr) (cum : Int) (held : Option Op) (c : Heap) : Prop :=
 ∃ b m n clock, p = some ⟨b, 0, none⟩ /\ JoinOf c [single b (.cells #[.int .i64 8, .int .i64 cum, .map (some m)] 264 (0, 0)), single m (mpO eHe (heldL cum held n) clock)]
theorem inNew (hO : Own G h L)
  (hK : ∀ h' p c, InP p 0 none c -> Own G h' (c :: L) -> K (.tuple #[.pointer p, .int .i64 0]) h') : CallF Tryz.prog G 94 #[.int .i64 8] K Kp h := by
 refine S94_ok ?_
 unfold S94
 refine If.f rfl ?_
 unfold S94_k1
 refine If.f rfl ?_
 refine mmake_go eHe hO λ h m hO => ⟨_, rfl, ?_⟩
 (refine newK.go hO ?_; clear hO; intro r h hO)
 obtain ⟨hj, hO⟩ := Own.closeJ (cs := [_, _]) hO
 exact hK _ _ _ ⟨_, _, 0, _, rfl, hj⟩ hO
theorem inCum {p : Option Addr} {cum : Int} {held : Option Op} {c : Heap} (hO : Own G h L) [t : Take L c R] (hq : InP p cum held c)
  (hK : K (.int .i64 cum) h) : CallF Tryz.prog G 169 #[.pointer p] K Kp h := by
 refine S169_ok ?_
 unfold S169
 obtain ⟨b, m, n, clock, rfl, hj⟩ := hq
 (have hO := (hO.perm t.perm).openJ hj; simp only [List.cons_append, List.nil_append] at hO)
 (repeat (first | refine NN.go ?_ | refine LdI.g hO ?_ | refine cell_g hO ?_ | refine Rq.go (by omega) ?_ | (refine st1.g hO ?_; clear hO; intro h hO; dsimp only [ad, List.set] at hO)))
 exact hK
theorem inReset {p : Option Addr} {cum : Int} {held : Option Op} {c : Heap} (hO : Own G h L) [t : Take L c R] (hq : InP p cum held c)
  (hK : ∀ h' c', InP p 0 none c' -> Own G h' (c' :: R) -> K (.tuple #[]) h') : CallF Tryz.prog G 171 #[.pointer p] K Kp h := by
 refine S171_ok ?_
 unfold S171
 obtain ⟨b, m, n, clock, rfl, hj⟩ := hq
 (have hO := (hO.perm t.perm).openJ hj; simp only [List.cons_append, List.nil_append] at hO)
 (repeat (first | refine NN.go ?_ | refine LdI.g hO ?_ | refine LdSl.g hO ?_ | refine LdP.g hO ?_ | refine LdM.g hO ?_ | refine LdB.g hO ?_ | refine cell_g hO ?_ | refine Rq.go (by omega) ?_ | refine Rng.go (by omega) ?_ | (refine st1.g hO ?_; clear hO; intro h hO; dsimp only [ad, List.set] at hO)))
 refine mclear_go tHe hO λ h hO => ⟨rfl, ?_⟩
 obtain ⟨hj, hO⟩ := Own.closeJ (cs := [_, _]) hO
 exact hK _ _ ⟨b, _, 0, _, rfl, hj⟩ hO
theorem inPut {p : Option Addr} {cum : Int} {c : Heap} {op : Op} (hO : Own G h L) [t : Take L c R] (hq : InP p cum none c) (h0 : 0 <= cum /\ cum < 4096)
  (hK : ∀ h' c', InP p cum (some op) c' -> Own G h' (c' :: R) -> K (.int .i64 0) h') : CallF Tryz.prog G 138 #[.pointer p, .int .i64 (cum + 1), opV op] K Kp h := by
 refine S138_ok ?_
 unfold S138
 obtain ⟨b, m, n, clock, rfl, hj⟩ := hq
 (have hO := (hO.perm t.perm).openJ hj; simp only [List.cons_append, List.nil_append] at hO)
 (refine newK.go hO ?_; clear hO; intro r h hO)
 refine If.dec (λ e => by omega) λ _ => ?_
 unfold S138_k1
 refine If.dec (λ e => by omega) λ _ => ?_
 refine NN.go (LdM.g hO ?_)
 refine look2_go tHe (hO.rd inferInstance) (cum + 1) ⟨_, _, _, _, _, _, rfl, ?_⟩
 (refine newK.go hO ?_; clear hO; intro r h hO)
 (repeat (first | refine NN.go ?_ | refine LdI.g hO ?_ | refine LdSl.g hO ?_ | refine LdP.g hO ?_ | refine LdM.g hO ?_ | refine LdB.g hO ?_ | refine cell_g hO ?_ | refine Rq.go (by omega) ?_ | refine Rng.go (by omega) ?_ | (refine st1.g hO ?_; clear hO; intro h hO; dsimp only [ad, List.set] at hO)))
 refine If.dec (λ e => by omega) λ _ => ?_
 (repeat (first | refine NN.go ?_ | refine LdI.g hO ?_ | refine LdSl.g hO ?_ | refine LdP.g hO ?_ | refine LdM.g hO ?_ | refine LdB.g hO ?_ | refine cell_g hO ?_ | refine Rq.go (by omega) ?_ | refine Rng.go (by omega) ?_ | (refine st1.g hO ?_; clear hO; intro h hO; dsimp only [ad, List.set] at hO)))
 refine If.dec (λ e => by omega) λ _ => ?_
 (repeat (first | refine NN.go ?_ | refine LdI.g hO ?_ | refine LdSl.g hO ?_ | refine LdP.g hO ?_ | refine LdM.g hO ?_ | refine LdB.g hO ?_ | refine cell_g hO ?_ | refine Rq.go (by omega) ?_ | refine Rng.go (by omega) ?_ | (refine st1.g hO ?_; clear hO; intro h hO; dsimp only [ad, List.set] at hO)))
 refine mput_go tHe hO (cum + 1) op λ h clock' hO => ⟨rfl, ?_⟩
 rw [show mputL (heldL cum none n) (cum + 1) op clock = heldL cum (some op) clock from rfl] at hO
 have hO : Own G h ([single b (.cells #[.int .i64 8, .int .i64 cum, .map (some m)] 264 (0, 0)), single m (mpO eHe (heldL cum (some op) clock) clock')] ++ R) := by (refine hO.sp λ a => ?_; simp only [cnt_app, List.append_eq, cnt_cons, cnt_nil]; omega)
 obtain ⟨hj, hO⟩ := Own.closeJ hO
 exact hK _ _ ⟨b, _, _, _, rfl, hj⟩ hO
theorem heldL_get {cum : Int} {held : Option Op} {n : Nat} : mget (heldL cum held n) (cum + 1) = held := by
 cases held <;> simp [heldL, mget, fnd]
theorem inHead {p : Option Addr} {cum : Int} {held : Option Op} {c : Heap} (hO : Own G h L) [t : Take L c R] (hq : InP p cum held c) (h0 : 0 <= cum /\ cum <= 4096)
  (hK : ∀ h', Own G h' L -> K (.tuple #[opV (held.getD ⟨0, 0, 0, 0, 0⟩), .bool held.isSome]) h') : CallF Tryz.prog G 173 #[.pointer p] K Kp h := by
 refine S173_ok ?_
 unfold S173
 obtain ⟨b, m, n, clock, rfl, hj⟩ := hq
 refine newK.go hO ?_
 clear hO; intro r h hO
 have hop : ∀ (h : Heap) (M : List Heap), Own G h (M ++ L) -> Own G h (single b (.cells #[.int .i64 8, .int .i64 cum, .map (some m)] 264 (0, 0)) :: single m (mpO eHe (heldL cum held n) clock) :: (M ++ R)) := λ h M hO => by
  have h1 : Own G h (c :: (M ++ R)) := hO.perm (by (refine perm_cnt λ a => ?_; have ht := cnt_perm t.perm a; simp only [cnt_app, List.append_eq, cnt_cons, cnt_nil] at ht ⊢; omega))
  exact Own.openJ h1 hj
 refine NN.go (LdM.go (hop h [_] hO) (by with_unfolding_all rfl) (NN.go (LdI.go (hop h [_] hO) (by with_unfolding_all rfl) (Rng.go (by omega) ⟨?_, ?_⟩))))
 ·refine look2_go tHe ((hop h [_] hO).rd inferInstance) (cum + 1) ⟨_, _, _, _, _, _, rfl, ?_⟩
  rw [heldL_get]
  refine newK.go hO ?_
  clear hO; intro r2 h hO
  refine cell_go (hop h [_, _] hO) (by with_unfolding_all rfl) (cell_go (hop h [_, _] hO) (by with_unfolding_all rfl) ?_)
  (repeat (first | refine NN.go ?_ | refine LdI.g hO ?_ | refine cell_g hO ?_ | refine Rq.go (by omega) ?_ | (refine st1.g hO ?_; clear hO; intro h hO; dsimp only [ad, List.set] at hO)))
  exact hK _ hO.drop1.drop1
 ·refine newK.go hO ?_
  clear hO; intro r2 h hO
  refine cell_go (hop h [_, _] hO) (by with_unfolding_all rfl) (cell_go (hop h [_, _] hO) (by with_unfolding_all rfl) ?_)
  refine look2_go tHe ((hop h [_, _] hO).rd inferInstance) (cum + 1) ⟨_, _, _, _, _, _, rfl, ?_⟩
  rw [heldL_get]
  (repeat (first | refine NN.go ?_ | refine LdI.g hO ?_ | refine cell_g hO ?_ | refine Rq.go (by omega) ?_ | (refine st1.g hO ?_; clear hO; intro h hO; dsimp only [ad, List.set] at hO)))
  exact hK _ hO.drop1.drop1
theorem heldL_del {cum : Int} {o : Op} {n : Nat} : mdelL (heldL cum (some o) n) (cum + 1) = [] := by
 simp [heldL, mdelL, fnd]
theorem inPop {p : Option Addr} {cum : Int} {op : Op} {c : Heap} (hO : Own G h L) [t : Take L c R] (hq : InP p cum (some op) c) (h0 : 0 <= cum /\ cum < 4096)
  (hK : ∀ h' c', InP p (cum + 1) none c' -> Own G h' (c' :: R) -> K (.int .i64 0) h') : CallF Tryz.prog G 175 #[.pointer p] K Kp h := by
 refine S175_ok ?_
 unfold S175
 refine S174_ok ?_
 unfold S174
 refine inHead hO hq (by omega) λ h hO => ⟨_, _, _, _, _, _, rfl, ?_⟩
 obtain ⟨b, m, n, clock, rfl, hj⟩ := hq
 (have hO := (hO.perm t.perm).openJ hj; simp only [List.cons_append, List.nil_append] at hO)
 (refine newK.go hO ?_; clear hO; intro r h hO)
 (repeat (first | refine NN.go ?_ | refine LdI.g hO ?_ | refine LdSl.g hO ?_ | refine LdP.g hO ?_ | refine LdM.g hO ?_ | refine LdB.g hO ?_ | refine cell_g hO ?_ | refine Rq.go (by omega) ?_ | refine Rng.go (by omega) ?_ | (refine st1.g hO ?_; clear hO; intro h hO; dsimp only [ad, List.set] at hO)))
 refine mdel_go tHe hO (cum + 1) λ h hO => ⟨rfl, ?_⟩
 rw [heldL_del, show ([] : Ents Int Op) = heldL (cum + 1) none n from rfl] at hO
 refine ⟨_, rfl, If.t rfl ?_⟩
 (repeat (first | refine NN.go ?_ | refine LdI.g hO ?_ | refine LdSl.g hO ?_ | refine LdP.g hO ?_ | refine LdM.g hO ?_ | refine LdB.g hO ?_ | refine cell_g hO ?_ | refine Rq.go (by omega) ?_ | refine Rng.go (by omega) ?_ | (refine st1.g hO ?_; clear hO; intro h hO; dsimp only [ad, List.set] at hO)))
 unfold S175_k1
 have hO : Own G h ([single b (.cells #[.int .i64 8, .int .i64 (cum + 1), .map (some m)] 264 (0, 0)), single m (mpO eHe (heldL (cum + 1) none n) clock)] ++ R) := by (refine hO.sp λ a => ?_; simp only [cnt_app, List.append_eq, cnt_cons, cnt_nil]; omega)
 obtain ⟨hj, hO⟩ := Own.closeJ hO
 exact hK _ _ ⟨b, _, _, _, rfl, hj⟩ hO
end Go.Sl
set_option maxRecDepth 100000
namespace Go.Sl
open Go Go.Proofs
variable {G h : Heap} {L R : List Heap} {K : Value -> Heap -> Prop} {Kp : PK}
structure FitP (n : Nat) (o : Op) : Prop where
 k : (o.kind = 0 /\ o.pos = 0 /\ o.ch = 0) ∨ (o.kind = 1 /\ 32 <= o.ch /\ o.ch <= 126 /\ 0 <= o.pos /\ o.pos <= n) ∨ (o.kind = 2 /\ o.ch = 0 /\ 0 <= o.pos /\ o.pos < n)
 c : 1 <= o.client /\ o.client <= 64
 s : 1 <= o.seq /\ o.seq <= 64
theorem FitP.ch {n : Nat} {o : Op} (h : FitP n o) : 0 <= o.ch /\ o.ch < 256 := by rcases h.k with h | h | h <;> omega
theorem FitP.pos {n : Nat} {o : Op} (h : FitP n o) : 0 <= o.pos /\ o.pos <= n := by rcases h.k with h | h | h <;> omega
theorem FitP.valid {n : Nat} {o : Op} (h : FitP n o) (hn : n <= 4000) : validE o = 0 := by
 obtain ⟨k, c, s⟩ := h
 have h2 : inR o.client 1 64 = true := by simp [inR]; omega
 have h3 : inR o.seq 1 64 = true := by simp [inR]; omega
 unfold validE
 rw [h2, h3]
 rcases k with ⟨k1, k2, k3⟩ | ⟨k1, k2, k3, k4, k5⟩ | ⟨k1, k2, k3, k4⟩
 ·simp [k1, k2, k3, inR]
 ·have h4 : inR o.ch 32 126 = true := by simp [inR]; omega
  have h5 : inR o.pos 0 4095 = true := by simp [inR]; omega
  simp [k1, h4, h5]
  decide
 ·have h5 : inR o.pos 0 4095 = true := by simp [inR]; omega
  simp [k1, k2, h5]
  decide
theorem FitP.fits {n : Nat} {o : Op} (h : FitP n o) (hn : n <= 4000) : fitsE n o = 0 := by
 have hv := h.valid hn
 have hr : inR (n : Int) 0 4096 = true := by simp [inR]; omega
 unfold fitsE
 rw [hv, hr]
 obtain ⟨k, c, s⟩ := h
 have h4 : ((n : Int) == 4096) = false := by simp; omega
 rcases k with ⟨k1, k2, k3⟩ | ⟨k1, k2, k3, k4, k5⟩ | ⟨k1, k2, k3, k4⟩
 ·simp [k1]
 ·have h6 : ¬ ((n : Int) < o.pos) := by omega
  simp [k1, h4, h6]
 ·have h6 : ¬ ((n : Int) <= o.pos) := by omega
  simp [k1, h6]
theorem FitP.mono {n : Nat} {o : Op} {m : Nat} (h : FitP n o) (hn : n <= m) : FitP m o := by
 refine ⟨?_, h.c, h.s⟩
 rcases h.k with h | h | h
 ·exact .inl h
 ·exact .inr (.inl (by omega))
 ·exact .inr (.inr (by omega))
def gr (o : Op) : Int := bif o.kind == 1 then 1 else bif o.kind == 2 then -1 else 0
theorem FitP.len {d : List Elm} {o : Op} (h : FitP d.length o) : ((applyD d o).length : Int) = d.length + gr o := by
 unfold applyD gr
 rcases h.k with ⟨k1, k2, k3⟩ | ⟨k1, k2, k3, k4, k5⟩ | ⟨k1, k2, k3, k4⟩
 ·simp [k1]
 ·simp [k1]; omega
 ·simp [k1]; omega
theorem ins_get {d : List Elm} {p : Nat} {x : Elm} (hp : p <= d.length) (k : Nat) : (d.take p ++ [x] ++ d.drop p)[k]? = if k < p then d[k]? else if k = p then some x else d[k - 1]? := by
 have hl : (d.take p).length = p := by simp; omega
 by_cases h1 : k < p
 ·rw [if_pos h1, List.append_assoc, List.getElem?_append_left (by omega), List.getElem?_take, if_pos h1]
 ·rw [if_neg h1]
  by_cases h2 : k = p
  ·subst h2
   rw [if_pos rfl, List.append_assoc, List.getElem?_append_right (by omega), hl, Nat.sub_self]; rfl
  ·rw [if_neg h2, List.getElem?_append_right (by simp; omega), List.getElem?_drop]
   congr 1
   simp; omega
theorem del_get {d : List Elm} {p : Nat} (hp : p <= d.length) (k : Nat) : (d.take p ++ d.drop (p + 1))[k]? = if k < p then d[k]? else d[k + 1]? := by
 have hl : (d.take p).length = p := by simp; omega
 by_cases h1 : k < p
 ·rw [if_pos h1, List.getElem?_append_left (by omega), List.getElem?_take, if_pos h1]
 ·rw [if_neg h1, List.getElem?_append_right (by omega), List.getElem?_drop]
  congr 1
  omega
def insL (p : Nat) (x : Elm) (d : List Elm) : List Elm := d.take p ++ [x] ++ d.drop p
def delL (p : Nat) (d : List Elm) : List Elm := d.take p ++ d.drop (p + 1)
theorem insL_len {d : List Elm} {p : Nat} {x : Elm} (hp : p <= d.length) : (insL p x d).length = d.length + 1 := by simp [insL]; omega
theorem delL_len {d : List Elm} {p : Nat} (hp : p < d.length) : (delL p d).length = d.length - 1 := by simp [delL]; omega
theorem insL_get {d : List Elm} {p : Nat} {x : Elm} (hp : p <= d.length) (k : Nat) : (insL p x d)[k]? = if k < p then d[k]? else if k = p then some x else d[k - 1]? := ins_get hp k
theorem delL_get {d : List Elm} {p : Nat} (hp : p < d.length) (k : Nat) : (delL p d)[k]? = if k < p then d[k]? else d[k + 1]? := del_get (by omega) k
theorem com_ii {d : List Elm} {p q : Nat} {x y : Elm} (h : p <= q) (hq : q <= d.length) : insL (q + 1) y (insL p x d) = insL p x (insL q y d) := by
 refine List.ext_getElem? λ k => ?_
 rw [insL_get (d := insL p x d) (by rw [insL_len (by omega)]; omega), insL_get (d := insL q y d) (by rw [insL_len hq]; omega)]
 simp only [insL_get (show p <= d.length by omega), insL_get hq]
 grind
theorem com_id {d : List Elm} {p q : Nat} {x : Elm} (h : p <= q) (hq : q < d.length) : delL (q + 1) (insL p x d) = insL p x (delL q d) := by
 refine List.ext_getElem? λ k => ?_
 rw [delL_get (d := insL p x d) (by rw [insL_len (by omega)]; omega), insL_get (d := delL q d) (by rw [delL_len hq]; omega)]
 simp only [insL_get (show p <= d.length by omega), delL_get hq]
 grind
theorem com_di {d : List Elm} {p q : Nat} {x : Elm} (h : q < p) (hp : p <= d.length) : delL q (insL p x d) = insL (p - 1) x (delL q d) := by
 refine List.ext_getElem? λ k => ?_
 rw [delL_get (d := insL p x d) (by rw [insL_len (by omega)]; omega), insL_get (d := delL q d) (by rw [delL_len (by omega)]; omega)]
 simp only [insL_get hp, delL_get (show q < d.length by omega)]
 grind
theorem com_dd {d : List Elm} {p q : Nat} (h : p < q) (hq : q < d.length) : delL (q - 1) (delL p d) = delL p (delL q d) := by
 refine List.ext_getElem? λ k => ?_
 rw [delL_get (d := delL p d) (by rw [delL_len (by omega)]; omega), delL_get (d := delL q d) (by rw [delL_len hq]; omega)]
 simp only [delL_get (show p < d.length by omega), delL_get hq]
 grind
theorem app1 {d : List Elm} {o : Op} (h : o.kind = 1) : applyD d o = insL o.pos.toNat ⟨o.ch, o.client, o.seq⟩ d := by unfold applyD insL; rw [h]; rfl
theorem app2 {d : List Elm} {o : Op} (h : o.kind = 2) : applyD d o = delL o.pos.toNat d := by unfold applyD delL; rw [h]; rfl
theorem app0 {d : List Elm} {o : Op} (h : o.kind = 0) : applyD d o = d := by unfold applyD; rw [h]; rfl
theorem sh0 {x y : Op} {g : Bool} (h : x.kind = 0 ∨ y.kind = 0) : shiftO x y g = x := by
 unfold shiftO
 have : ruleF (rowI x.kind) (rowI y.kind) x.pos y.pos g = (x.pos, true) := by
  rcases h with h | h
  ·rw [h, show rowI 0 = 0 from rfl]; unfold ruleF; split <;> simp_all
  ·rw [h, show rowI 0 = 0 from rfl]; unfold ruleF; split <;> simp_all
 rw [this]; rfl
theorem sh11 {x y : Op} {g : Bool} (hx : x.kind = 1) (hy : y.kind = 1) : shiftO x y g = if y.pos < x.pos ∨ (y.pos = x.pos /\ g = false) then { x with pos := x.pos + 1 } else x := by
 obtain ⟨xk, xp, xch, xc, xs⟩ := x
 simp only at hx
 subst hx
 unfold shiftO; simp only; rw [hy, show rowI 1 = 1 from rfl]; unfold ruleF
 cases h : (decide (y.pos < xp) || (y.pos == xp && !g)) <;> simp at h <;> grind
theorem sh12 {x y : Op} {g : Bool} (hx : x.kind = 1) (hy : y.kind = 2) : shiftO x y g = if y.pos < x.pos then { x with pos := x.pos - 1 } else x := by
 obtain ⟨xk, xp, xch, xc, xs⟩ := x
 simp only at hx
 subst hx
 unfold shiftO; simp only; rw [hy, show rowI 1 = 1 from rfl, show rowI 2 = 2 from rfl]; unfold ruleF
 cases h : decide (y.pos < xp) <;> simp at h <;> grind
theorem sh21 {x y : Op} {g : Bool} (hx : x.kind = 2) (hy : y.kind = 1) : shiftO x y g = if y.pos <= x.pos then { x with pos := x.pos + 1 } else x := by
 obtain ⟨xk, xp, xch, xc, xs⟩ := x
 simp only at hx
 subst hx
 unfold shiftO; simp only; rw [hy, show rowI 1 = 1 from rfl, show rowI 2 = 2 from rfl]; unfold ruleF
 cases h : decide (y.pos <= xp) <;> simp at h <;> grind
theorem sh22 {x y : Op} {g : Bool} (hx : x.kind = 2) (hy : y.kind = 2) : shiftO x y g = if y.pos < x.pos then { x with pos := x.pos - 1 } else if y.pos = x.pos then ⟨0, 0, 0, x.client, x.seq⟩ else x := by
 obtain ⟨xk, xp, xch, xc, xs⟩ := x
 simp only at hx
 subst hx
 unfold shiftO; simp only; rw [hy, show rowI 2 = 2 from rfl]; unfold ruleF
 cases h : decide (y.pos < xp) <;> cases h2 : (y.pos == xp) <;> simp at h h2 <;> grind
theorem tp1 {d : List Elm} {a b : Op} {f : Bool} (ha : FitP d.length a) (hb : FitP d.length b) :
  FitP (applyD d a).length (shiftO b a (!f)) /\ FitP (applyD d b).length (shiftO a b f) /\ applyD (applyD d a) (shiftO b a (!f)) = applyD (applyD d b) (shiftO a b f) := by
 have la := ha.len
 have lb := hb.len
 have hac := ha.c
 have has := ha.s
 have hbc := hb.c
 have hbs := hb.s
 unfold gr at la lb
 rcases ha.k with ⟨a0, ha'⟩ | ⟨a0, ha'⟩ | ⟨a0, ha'⟩ <;> rw [a0] at la
 ·rw [sh0 (.inl a0), sh0 (.inr a0), app0 a0]
  refine ⟨hb, ⟨.inl ⟨a0, ha'⟩, hac, has⟩, (app0 a0).symm⟩
 ·rcases hb.k with ⟨b0, hb'⟩ | ⟨b0, hb'⟩ | ⟨b0, hb'⟩ <;> rw [b0] at lb
  ·rw [sh0 (.inl b0), sh0 (.inr b0), app0 b0]
   exact ⟨⟨.inl ⟨b0, hb'⟩, hbc, hbs⟩, ha, app0 b0⟩
  ·simp at la lb
   rw [sh11 b0 a0, sh11 a0 b0]
   by_cases h1 : b.pos < a.pos ∨ (b.pos = a.pos /\ f = false)
   ·rw [if_pos h1, if_neg (by cases f <;> simp at h1 ⊢ <;> omega)]
    refine ⟨⟨.inr (.inl (by omega)), hbc, hbs⟩, ⟨.inr (.inl (by simp only; omega)), hac, has⟩, ?_⟩
    rw [app1 a0, app1 b0, app1 b0, app1 (o := { a with pos := a.pos + 1 }) a0]
    simp only
    rw [show (a.pos + 1).toNat = a.pos.toNat + 1 by omega, com_ii (by omega) (by omega)]
   ·rw [if_neg h1, if_pos (by cases f <;> simp at h1 ⊢ <;> omega)]
    refine ⟨⟨.inr (.inl (by simp only; omega)), hbc, hbs⟩, ⟨.inr (.inl (by omega)), hac, has⟩, ?_⟩
    rw [app1 a0, app1 b0, app1 a0, app1 (o := { b with pos := b.pos + 1 }) b0]
    simp only
    rw [show (b.pos + 1).toNat = b.pos.toNat + 1 by omega, com_ii (by omega) (by omega)]
  ·simp at la lb
   rw [sh21 b0 a0, sh12 a0 b0]
   by_cases h1 : b.pos < a.pos
   ·rw [if_pos h1, if_neg (by omega)]
    refine ⟨⟨.inr (.inr (by omega)), hbc, hbs⟩, ⟨.inr (.inl (by simp only; omega)), hac, has⟩, ?_⟩
    rw [app1 a0, app2 b0, app2 b0, app1 (o := { a with pos := a.pos - 1 }) a0]
    simp only
    rw [show (a.pos - 1).toNat = a.pos.toNat - 1 by omega, com_di (by omega) (by omega)]
   ·rw [if_neg h1, if_pos (by omega)]
    refine ⟨⟨.inr (.inr (by simp only; omega)), hbc, hbs⟩, ⟨.inr (.inl (by omega)), hac, has⟩, ?_⟩
    rw [app1 a0, app2 b0, app1 a0, app2 (o := { b with pos := b.pos + 1 }) b0]
    simp only
    rw [show (b.pos + 1).toNat = b.pos.toNat + 1 by omega, com_id (by omega) (by omega)]
 ·rcases hb.k with ⟨b0, hb'⟩ | ⟨b0, hb'⟩ | ⟨b0, hb'⟩ <;> rw [b0] at lb
  ·rw [sh0 (.inl b0), sh0 (.inr b0), app0 b0]
   exact ⟨⟨.inl ⟨b0, hb'⟩, hbc, hbs⟩, ha, app0 b0⟩
  ·simp at la lb
   rw [sh12 b0 a0, sh21 a0 b0]
   by_cases h1 : a.pos < b.pos
   ·rw [if_pos h1, if_neg (by omega)]
    refine ⟨⟨.inr (.inl (by simp only; omega)), hbc, hbs⟩, ⟨.inr (.inr (by omega)), hac, has⟩, ?_⟩
    rw [app2 a0, app1 b0, app2 a0, app1 (o := { b with pos := b.pos - 1 }) b0]
    simp only
    rw [show (b.pos - 1).toNat = b.pos.toNat - 1 by omega, com_di (by omega) (by omega)]
   ·rw [if_neg h1, if_pos (by omega)]
    refine ⟨⟨.inr (.inl (by omega)), hbc, hbs⟩, ⟨.inr (.inr (by simp only; omega)), hac, has⟩, ?_⟩
    rw [app2 a0, app1 b0, app1 b0, app2 (o := { a with pos := a.pos + 1 }) a0]
    simp only
    rw [show (a.pos + 1).toNat = a.pos.toNat + 1 by omega, com_id (by omega) (by omega)]
  ·simp at la lb
   rw [sh22 b0 a0, sh22 a0 b0]
   rcases Int.lt_trichotomy a.pos b.pos with h1 | h1 | h1
   ·rw [if_pos h1, if_neg (by omega), if_neg (by omega)]
    refine ⟨⟨.inr (.inr (by simp only; omega)), hbc, hbs⟩, ⟨.inr (.inr (by omega)), hac, has⟩, ?_⟩
    rw [app2 a0, app2 b0, app2 a0, app2 (o := { b with pos := b.pos - 1 }) b0]
    simp only
    rw [show (b.pos - 1).toNat = b.pos.toNat - 1 by omega, com_dd (by omega) (by omega)]
   ·rw [if_neg (by omega), if_pos h1, if_neg (by omega), if_pos h1.symm]
    refine ⟨⟨.inl ⟨rfl, rfl, rfl⟩, hbc, hbs⟩, ⟨.inl ⟨rfl, rfl, rfl⟩, hac, has⟩, ?_⟩
    rw [app0 (o := ⟨0, 0, 0, b.client, b.seq⟩) rfl, app0 (o := ⟨0, 0, 0, a.client, a.seq⟩) rfl, app2 a0, app2 b0, h1]
   ·rw [if_neg (by omega), if_neg (by omega), if_pos h1]
    refine ⟨⟨.inr (.inr (by omega)), hbc, hbs⟩, ⟨.inr (.inr (by simp only; omega)), hac, has⟩, ?_⟩
    rw [app2 a0, app2 b0, app2 b0, app2 (o := { a with pos := a.pos - 1 }) a0]
    simp only
    rw [show (a.pos - 1).toNat = a.pos.toNat - 1 by omega, com_dd (by omega) (by omega)]
end Go.Sl
set_option maxRecDepth 100000
namespace Go.Sl
open Go Go.Proofs
variable {G h : Heap} {L R : List Heap} {K : Value -> Heap -> Prop} {Kp : PK}
def applyL (d : List Elm) (l : List Op) : List Elm := l.foldl applyD d
theorem applyL_cons (d : List Elm) (o : Op) (l : List Op) : applyL d (o :: l) = applyL (applyD d o) l := rfl
theorem applyL_app (d : List Elm) (l m : List Op) : applyL d (l ++ m) = applyL (applyL d l) m := List.foldl_append
def FitL : List Elm -> List Op -> Prop
 | _, [] => True
 | d, o :: l => FitP d.length o /\ FitL (applyD d o) l
theorem FitL_app {d : List Elm} {l m : List Op} : FitL d (l ++ m) ↔ FitL d l /\ FitL (applyL d l) m := by
 induction l generalizing d with
 | nil => simp [FitL, applyL]
 | cons o l ih => simp only [List.cons_append, FitL, ih, applyL_cons, and_assoc]
def sumG (l : List Op) : Int := l.foldr (λ o s => gr o + s) 0
theorem FitL.len {d : List Elm} {l : List Op} (h : FitL d l) : ((applyL d l).length : Int) = d.length + sumG l := by
 induction l generalizing d with
 | nil => simp [applyL, sumG]
 | cons o l ih =>
  rw [applyL_cons, ih h.2, h.1.len]
  simp only [sumG, List.foldr_cons]; omega
def pst (o : Op) (l : List Op) (f : Bool) : Op × List Op := match l with
 | [] => (o, [])
 | x :: l => ((pst (shiftO o x (!f)) l f).1, shiftO x o f :: (pst (shiftO o x (!f)) l f).2)
theorem past_foldl (f : Bool) (l : List Op) : ∀ (o : Op) (acc : List Op), l.foldl (pastS f) (o, acc) = ((pst o l f).1, acc ++ (pst o l f).2) := by
 induction l with
 | nil => intro o acc; simp [pst]
 | cons x l ih => intro o acc; rw [List.foldl_cons]; simp only [pastS, pst]; rw [ih]; simp
theorem past_pst (o : Op) (l : List Op) (f : Bool) : pastO o l f = pst o l f := by
 unfold pastO; rw [past_foldl]; simp
theorem pst_app (f : Bool) (l m : List Op) : ∀ o, pst o (l ++ m) f = ((pst (pst o l f).1 m f).1, (pst o l f).2 ++ (pst (pst o l f).1 m f).2) := by
 induction l with
 | nil => intro o; simp [pst]
 | cons x l ih => intro o; simp only [List.cons_append, pst, ih]
theorem pst_len (f : Bool) (l : List Op) : ∀ o, (pst o l f).2.length = l.length := by
 induction l with
 | nil => intro o; rfl
 | cons x l ih => intro o; simp [pst, ih]
theorem past_ok {f : Bool} {l : List Op} : ∀ {d : List Elm} {o : Op}, FitP d.length o -> FitL d l ->
  FitP (applyL d l).length (pst o l f).1 /\ FitL (applyD d o) (pst o l f).2 /\ applyL (applyD d o) (pst o l f).2 = applyD (applyL d l) (pst o l f).1 := by
 induction l with
 | nil => intro d o ho _; exact ⟨ho, trivial, rfl⟩
 | cons x l ih =>
  intro d o ho hl
  obtain ⟨hx, hl⟩ := hl
  obtain ⟨h1, h2, h3⟩ := tp1 (f := f) hx ho
  obtain ⟨i1, i2, i3⟩ := ih h1 hl
  refine ⟨i1, ⟨h2, ?_⟩, ?_⟩
  ·rw [<- h3]; exact i2
  ·rw [pst, applyL_cons, applyL_cons, <- h3]; exact i3
def dropT (t : Int) (q : List (Int × Op)) : List (Int × Op) := q.dropWhile λ m => decide (m.1 <= t)
def sstep (q : List (Int × Op)) (e : Ed) : Op × List (Int × Op) :=
 ((pst e.op ((dropT e.tag q).map (·.2)) true).1, ((dropT e.tag q).map (·.1)).zip (pst e.op ((dropT e.tag q).map (·.2)) true).2)
inductive SSim : List (Int × Op) -> Int -> Int -> List Elm -> List Ed -> List Op -> List (Int × Op) -> List Elm -> Prop
 | nil {q t s Y} : SSim q t s Y [] [] q Y
 | cons {q t s Y e es ds qf Yf} (X : List Elm) : e.op.seq = s + 1 -> t <= e.tag -> e.op.kind ≠ 0 -> FitP X.length e.op -> FitL X ((dropT e.tag q).map (·.2)) -> applyL X ((dropT e.tag q).map (·.2)) = Y ->
   SSim (sstep q e).2 e.tag (s + 1) (applyD Y (sstep q e).1) es ds qf Yf -> SSim q t s Y (e :: es) ((sstep q e).1 :: ds) qf Yf
inductive CSim (id : Int) : Int -> List Op -> List Elm -> List Op -> List Op -> List Elm -> List (Int × Op) -> Prop
 | nil {k F T} : CSim id k F T [] F T []
 | own {k r F T rs Ff Tf outs} : r.client = id -> CSim id (k + 1) F T rs Ff Tf outs -> CSim id k (r :: F) T (r :: rs) Ff Tf outs
 | other {k r F T rs Ff Tf outs} : r.client ≠ id -> FitP T.length (pst r F false).1 ->
   CSim id (k + 1) (pst r F false).2 (applyD T (pst r F false).1) rs Ff Tf outs -> CSim id k F T (r :: rs) Ff Tf ((k + 1, (pst r F false).1) :: outs)
theorem dropT_app {t : Int} {q : List (Int × Op)} {x : Int × Op} (h : t < x.1) : dropT t (q ++ [x]) = dropT t q ++ [x] := by
 unfold dropT
 induction q with
 | nil => simp [List.dropWhile, show ¬ x.1 <= t by omega]
 | cons y q ih =>
  simp only [List.cons_append, List.dropWhile_cons]
  split
  ·exact ih
  ·rfl
theorem zip_app1 {α β : Type} {l : List α} {m : List β} (h : l.length = m.length) (a : α) (b : β) : (l ++ [a]).zip (m ++ [b]) = l.zip m ++ [(a, b)] := by
 rw [List.zip_append h]; rfl
theorem sstep_done {q : List (Int × Op)} {e : Ed} {X : List Elm} (h : FitP X.length e.op) (hl : FitL X ((dropT e.tag q).map (·.2))) : FitP (applyL X ((dropT e.tag q).map (·.2))).length (sstep q e).1 := (past_ok h hl).1
theorem SSim.push {q : List (Int × Op)} {t s : Int} {Y : List Elm} {es : List Ed} {ds : List Op} {qf : List (Int × Op)} {Yf : List Elm} (h : SSim q t s Y es ds qf Yf) {mk : Int} (hm : ∀ e ∈ es, e.tag < mk) :
  ∀ {d : Op}, FitP Y.length d -> SSim (q ++ [(mk, d)]) t s (applyD Y d) es (pst d ds false).2 (qf ++ [(mk, (pst d ds false).1)]) (applyD Yf (pst d ds false).1) := by
 induction h with
 | nil => intro d hd; exact .nil
 | @cons q t s Y e es ds qf Yf X h1 h2 h3 h4 h5 h6 h7 ih =>
  intro d hd
  have hmk := hm e (by simp)
  have hdn : FitP Y.length (sstep q e).1 := h6 ▸ sstep_done h4 h5
  obtain ⟨k1, k2, k3⟩ := tp1 (f := false) hdn hd
  have hdr : dropT e.tag (q ++ [(mk, d)]) = dropT e.tag q ++ [(mk, d)] := dropT_app hmk
  have hst : sstep (q ++ [(mk, d)]) e = (shiftO (sstep q e).1 d false, (sstep q e).2 ++ [(mk, shiftO d (sstep q e).1 true)]) := by
   unfold sstep
   rw [hdr]
   simp only [List.map_append, List.map_cons, List.map_nil, pst_app]
   rw [show ∀ o : Op, (pst o [d] true) = (shiftO o d false, [shiftO d o true]) from λ o => rfl]
   simp only
   rw [zip_app1 (by simp [pst_len])]
  have hi := ih (λ e he => hm e (List.mem_cons_of_mem _ he)) k1
  have e1 : (pst d ((sstep q e).1 :: ds) false) = ((pst (shiftO d (sstep q e).1 true) ds false).1, shiftO (sstep q e).1 d false :: (pst (shiftO d (sstep q e).1 true) ds false).2) := rfl
  rw [e1]
  have hc := SSim.cons (q := q ++ [(mk, d)]) (t := t) (s := s) (Y := applyD Y d) (e := e) (es := es) (ds := (pst (shiftO d (sstep q e).1 true) ds false).2) (qf := qf ++ [(mk, (pst (shiftO d (sstep q e).1 true) ds false).1)]) (Yf := applyD Yf (pst (shiftO d (sstep q e).1 true) ds false).1) X h1 h2 h3 h4
   (by rw [hdr, List.map_append]; refine FitL_app.2 ⟨h5, ?_⟩; rw [h6]; exact ⟨hd, trivial⟩) (by rw [hdr, List.map_append, applyL_app, h6]; rfl)
   (by rw [hst]; simp only; rw [<- k3]; exact hi)
  rw [hst] at hc
  exact hc
theorem SSim.snoc {q : List (Int × Op)} {t s : Int} {Y : List Elm} {es : List Ed} {ds : List Op} {qf : List (Int × Op)} {Yf : List Elm} (h : SSim q t s Y es ds qf Yf) {e : Ed} (h1 : e.op.seq = s + es.length + 1) (h2 : t <= e.tag /\ ∀ x ∈ es, x.tag <= e.tag) (h3 : e.op.kind ≠ 0) {X : List Elm}
  (h4 : FitP X.length e.op) (h5 : FitL X ((dropT e.tag qf).map (·.2))) (h6 : applyL X ((dropT e.tag qf).map (·.2)) = Yf) : SSim q t s Y (es ++ [e]) (ds ++ [(sstep qf e).1]) (sstep qf e).2 (applyD Yf (sstep qf e).1) := by
 induction h with
 | nil => exact .cons X (by simpa using h1) h2.1 h3 h4 h5 h6 .nil
 | cons X' a1 a2 a3 a4 a5 a6 a7 ih =>
  refine .cons X' a1 a2 a3 a4 a5 a6 (ih ?_ ⟨h2.2 _ (by simp), λ x hx => h2.2 x (by simp [hx])⟩ h5 h6)
  rw [h1]; simp only [List.length_cons]; omega
theorem CSim.outs_fit {id k : Int} {F rs Ff : List Op} {T Tf : List Elm} {outs : List (Int × Op)} (h : CSim id k F T rs Ff Tf outs) : FitL T (outs.map (·.2)) /\ applyL T (outs.map (·.2)) = Tf := by
 induction h with
 | nil => exact ⟨trivial, rfl⟩
 | own _ _ ih => exact ih
 | other _ hf _ ih => exact ⟨⟨hf, ih.1⟩, ih.2⟩
theorem CSim.marks {id k : Int} {F rs Ff : List Op} {T Tf : List Elm} {outs : List (Int × Op)} (h : CSim id k F T rs Ff Tf outs) : (∀ m ∈ outs, k < m.1) /\ outs.Pairwise λ a b => a.1 < b.1 := by
 induction h with
 | nil => exact ⟨by simp, .nil⟩
 | own _ _ ih => exact ⟨λ m hm => by have := ih.1 m hm; omega, ih.2⟩
 | other _ _ _ ih =>
  refine ⟨λ m hm => ?_, List.pairwise_cons.2 ⟨λ m hm => ih.1 m hm, ih.2⟩⟩
  rcases List.mem_cons.1 hm with rfl | hm
  ·simp only; omega
  ·have := ih.1 m hm; omega
theorem dropT_all {t : Int} {q : List (Int × Op)} (h : ∀ m ∈ q, t < m.1) : dropT t q = q := by
 cases q with
 | nil => rfl
 | cons x q => unfold dropT; rw [List.dropWhile_cons]; have := h x (by simp); simp; omega
theorem CSim.push {id k : Int} {F rs Ff : List Op} {T Tf : List Elm} {outs : List (Int × Op)} (h : CSim id k F T rs Ff Tf outs) {d : Op} (h1 : d.client ≠ id) (h2 : FitP Tf.length (pst d Ff false).1) :
  CSim id k F T (rs ++ [d]) (pst d Ff false).2 (applyD Tf (pst d Ff false).1) (outs ++ [(k + rs.length + 1, (pst d Ff false).1)]) := by
 induction h with
 | nil => simpa using CSim.other h1 h2 .nil
 | own h _ ih =>
  have := ih h2
  refine .own h ?_
  rw [List.length_cons]
  rw [show ∀ (k : Int) (n : Nat), k + ((n + 1 : Nat) : Int) + 1 = k + 1 + n + 1 from λ k n => by omega]
  exact this
 | other h hf _ ih =>
  have := ih h2
  refine .other h hf ?_
  rw [List.length_cons]
  rw [show ∀ (k : Int) (n : Nat), k + ((n + 1 : Nat) : Int) + 1 = k + 1 + n + 1 from λ k n => by omega]
  exact this
theorem CSim.pushOwn {id k : Int} {F rs Ff : List Op} {T Tf : List Elm} {outs : List (Int × Op)} {d : Op} (h : CSim id k F T rs (d :: Ff) Tf outs) (h1 : d.client = id) : CSim id k F T (rs ++ [d]) Ff Tf outs := by
 generalize hg : d :: Ff = X at h
 induction h with
 | nil => subst hg; exact .own h1 .nil
 | own h _ ih => exact .own h (ih hg)
 | other h hf _ ih => exact .other h hf (ih hg)
theorem CSim.snoc {id k : Int} {F rs Ff : List Op} {T Tf : List Elm} {outs : List (Int × Op)} (h : CSim id k F T rs Ff Tf outs) : ∀ {op : Op}, FitP T.length op ->
  CSim id k (F ++ [op]) (applyD T op) rs (Ff ++ [(pst op (outs.map (·.2)) true).1]) (applyD Tf (pst op (outs.map (·.2)) true).1) ((outs.map (·.1)).zip (pst op (outs.map (·.2)) true).2) := by
 induction h with
 | nil => intro op ho; exact .nil
 | own h _ ih => intro op ho; exact .own h (ih ho)
 | @other k r F T rs Ff Tf outs h hf _ ih =>
  intro op ho
  obtain ⟨k1, k2, k3⟩ := tp1 (f := true) hf ho
  have := ih k1
  have e1 : pst r (F ++ [op]) false = (shiftO (pst r F false).1 op true, (pst r F false).2 ++ [shiftO op (pst r F false).1 false]) := by
   rw [pst_app]; rfl
  have hc := CSim.other (id := id) (k := k) (r := r) (F := F ++ [op]) (T := applyD T op) (rs := rs) h (by rw [e1]; exact k2) (by rw [e1]; simp only; rw [<- k3]; exact this)
  rw [e1] at hc
  exact hc
end Go.Sl
set_option maxRecDepth 100000
namespace Go.Sl
open Go Go.Proofs
variable {G h : Heap} {L R : List Heap} {K : Value -> Heap -> Prop} {Kp : PK}
structure Cl where
 id : Int
 epoch : Int
 made : Int
 have_ : Int
 base : Int
 text : List Elm
 pend : List Ed
 forms : List Mk
 flast : Int
 last : List Int
 left : List Ed
 cum : Int
 held : Option Op
@[reducible] def clB (po pi : Option Addr) (pt : Nat) (pv : Value) (id epoch made hav base : Int) (q : Option Addr) (l k : Nat) (q2 : Option Addr) (l2 k2 : Nat) (pf : Option Addr) (last : List Int) : Obj :=
 .cells (.pointer po :: .pointer pi :: .iface pt pv :: .int .i64 id :: .int .i64 epoch :: .int .i64 made :: .int .i64 hav :: .int .i64 base :: .slice q l k :: .slice q2 l2 k2 :: .pointer pf :: last.map (.int .i64)).toArray 199 (0, 0)
def ClientP (p : Option Addr) (x : Cl) (c : Heap) : Prop :=
 ∃ b po pi pt pv q l k ct q2 l2 k2 cp pf co ci cf, p = some ⟨b, 0, none⟩ /\ x.last.length = 65 /\ Sli eElm q l k x.text ct /\ Sof eEd q2 l2 k2 x.pend cp /\ OutP po x.left co /\ InP pi x.cum x.held ci /\ SpaceP pf x.forms x.flast false cf /\
  JoinOf c [single b (clB po pi pt pv x.id x.epoch x.made x.have_ x.base q l k q2 l2 k2 pf x.last), ct, cp, co, ci, cf]
theorem clB_last {po pi : Option Addr} {pt : Nat} {pv : Value} {id epoch made hav base : Int} {q : Option Addr} {l k : Nat} {q2 : Option Addr} {l2 k2 : Nat} {pf : Option Addr} {last : List Int} {b n : Nat} {v : Int} (h : last[n]? = some v) :
  ocell (clB po pi pt pv id epoch made hav base q l k q2 l2 k2 pf last) ⟨b, 0 + 11 + n * 1, none⟩ = some (.int .i64 v) := by
 unfold ocell clB
 simp only [Option.isSome_none, Bool.false_eq_true, if_false, List.getElem?_toArray, Nat.zero_add, Nat.mul_one]
 rw [Nat.add_comm 11 n]
 simp only [List.getElem?_cons_succ, List.getElem?_map, h, Option.map_some]
theorem clB_set {po pi : Option Addr} {pt : Nat} {pv : Value} {id epoch made hav base : Int} {q : Option Addr} {l k : Nat} {q2 : Option Addr} {l2 k2 : Nat} {pf : Option Addr} {last : List Int} {b n : Nat} {v : Int} (h : n < last.length) :
  sto (clB po pi pt pv id epoch made hav base q l k q2 l2 k2 pf last) ⟨b, 0 + 11 + n * 1, none⟩ (.int .i64 v) = some (clB po pi pt pv id epoch made hav base q l k q2 l2 k2 pf (last.set n v)) := by
 unfold clB sto
 simp only [Nat.zero_add, Nat.mul_one]
 rw [Nat.add_comm 11 n]
 simp only [List.set_cons_succ, List.map_set]
 rw [if_pos]
 simp [Nat.blt, plainV]
 exact ⟨h, .inr rfl⟩
theorem clNew {id : Int} (hO : Own G h L) (hid : 1 <= id /\ id <= 64)
  (hK : ∀ h' p c, ClientP p ⟨id, 0, 0, 0, 0, [], [], [], 0, List.replicate 65 0, [], 0, none⟩ c -> Own G h' (c :: L) -> K (.tuple #[.pointer p, .int .i64 0]) h') : CallF Tryz.prog G 68 #[.int .i64 id] K Kp h := by
 refine S68_ok ?_
 unfold S68
 refine If.dec (λ e => by omega) λ _ => ?_
 unfold S68_k1
 refine If.dec (λ e => by omega) λ _ => ?_
 refine outNew hO λ h po co ho hO => ⟨_, _, rfl, ?_⟩
 refine inNew hO λ h pi ci hi hO => ⟨_, _, rfl, ?_⟩
 refine spaceNew hO λ h pf cf hf hO => ⟨_, rfl, ?_⟩
 refine newK.go hO ?_
 clear hO; intro r h hO
 have hO2 : Own G h ([single r (clB po pi 194 (.agg #[]) id 0 0 0 0 none 0 0 none 0 0 pf (List.replicate 65 0)), emp, emp, co, ci, cf] ++ L) := by
  have h0 : Own G h (single r (clB po pi 194 (.agg #[]) id 0 0 0 0 none 0 0 none 0 0 pf (List.replicate 65 0)) :: cf :: ci :: co :: L) := hO
  exact h0.addEmp.addEmp.perm (by (refine perm_cnt λ a => ?_; simp only [cnt_app, List.append_eq, cnt_cons, cnt_nil]; omega))
 obtain ⟨hj, hO⟩ := Own.closeJ hO2
 exact hK _ _ _ ⟨r, po, pi, _, _, _, _, _, _, _, _, _, _, pf, co, ci, cf, rfl, rfl, .no, .no, ho, hi, hf, hj⟩ hO
theorem clDoc {p : Option Addr} {x : Cl} {c : Heap} (hO : Own G h L) [t : Take L c R] (hq : ClientP p x c) (hsm : x.text.length <= 100000)
  (hK : ∀ h' p' l' c' pc, Sli eElm p' l' c' x.text pc -> Own G h' (pc :: L) -> K (.slice p' l' c') h') : CallF Tryz.prog G 74 #[.pointer p] K Kp h := by
 refine S74_ok ?_
 unfold S74
 obtain ⟨b, po, pi, pt, pv, q, l, k, ct, q2, l2, k2, cp, pf, co, ci, cf, rfl, h65, hs, hs2, ho, hi, hf, hj⟩ := hq
 (have hO := (hO.perm t.perm).openJ hj; simp only [List.cons_append, List.nil_append] at hO)
 have hln := hs.len
 subst hln
 (repeat (first | refine NN.go ?_ | refine LdI.g hO ?_ | refine LdSl.g hO ?_ | refine LdP.g hO ?_ | refine LdM.g hO ?_ | refine LdB.g hO ?_ | refine cell_g hO ?_ | refine Rq.go (by omega) ?_ | refine Rng.go (by omega) ?_ | (refine st1.g hO ?_; clear hO; intro h hO; dsimp only [ad, List.set] at hO)))
 refine append_go tElm tElm.ud hO.addEmp0 (.refl _) Sli.no ((hs.rdO hO.addEmp0 (by simp)) G h hO.addEmp0) (by omega) λ h p' c' pc' hs3 hO => ?_
 refine ⟨_, _, _, rfl, ?_⟩
 have hO2 : Own G h (pc' :: L) := (Own.reclose hj (L := pc' :: L) (R := pc' :: R) ((List.Perm.swap _ _ _).trans (t.perm.cons _)) (by (refine hO.sp λ a => ?_; simp only [cnt_app, List.append_eq, cnt_cons, cnt_nil]; omega)))
 simp only [Nat.zero_add, List.nil_append] at hs3 ⊢
 exact hK _ _ _ _ _ hs3 hO2
def Cl.edited (x : Cl) (o : Op) : Cl := { x with made := x.made + 1, text := applyD x.text { o with client := x.id, seq := x.made + 1 }, pend := x.pend ++ [⟨x.have_, { o with client := x.id, seq := x.made + 1 }⟩], forms := x.forms ++ [⟨x.made + 1, { o with client := x.id, seq := x.made + 1 }⟩], flast := x.made + 1, left := x.left ++ [⟨x.have_, { o with client := x.id, seq := x.made + 1 }⟩] }
theorem clEdit {p : Option Addr} {x : Cl} {c : Heap} {o : Op} (hO : Own G h L) [t : Take L c R] (hq : ClientP p x c) (hsm : x.text.length <= 3999) (hm : 0 <= x.made /\ x.made < 64) (hfit : FitP x.text.length { o with client := x.id, seq := x.made + 1 }) (hfl : x.flast <= x.made) (hfo : x.forms.length <= 4000) (hle : x.left.length <= 4000) (hpe : x.pend.length <= 4000) (hep : 0 < x.epoch)
  (hK : ∀ h' c', ClientP p (x.edited o) c' -> Own G h' (c' :: R) -> K (.tuple #[edV ⟨x.have_, { o with client := x.id, seq := x.made + 1 }⟩, .int .i64 0]) h') : CallF Tryz.prog G 103 #[.pointer p, opV o] K Kp h := by
 refine S103_ok ?_
 unfold S103
 obtain ⟨b, po, pi, pt, pv, q, l, k, ct, q2, l2, k2, cp, pf, co, ci, cf, rfl, h65, hs, hs2, ho, hi, hf, hj⟩ := hq
 (have hO := (hO.perm t.perm).openJ hj; simp only [List.cons_append, List.nil_append] at hO)
 have hln := hs.len
 subst hln
 (refine newK.go hO ?_; clear hO; intro r h hO)
 (refine newK.go hO ?_; clear hO; intro r h hO)
 (repeat (first | refine NN.go ?_ | refine LdI.g hO ?_ | refine LdSl.g hO ?_ | refine LdP.g hO ?_ | refine LdM.g hO ?_ | refine LdB.g hO ?_ | refine cell_g hO ?_ | refine Rq.go (by omega) ?_ | refine Rng.go (by omega) ?_ | (refine st1.g hO ?_; clear hO; intro h hO; dsimp only [ad, List.set] at hO)))
 refine If.f (by simp; omega) ?_
 (repeat (first | refine NN.go ?_ | refine LdI.g hO ?_ | refine LdSl.g hO ?_ | refine LdP.g hO ?_ | refine LdM.g hO ?_ | refine LdB.g hO ?_ | refine cell_g hO ?_ | refine Rq.go (by omega) ?_ | refine Rng.go (by omega) ?_ | (refine st1.g hO ?_; clear hO; intro h hO; dsimp only [ad, List.set] at hO)))
 refine docApply (o := { o with client := x.id, seq := x.made + 1 }) hO hfit.ch (hs.rdO hO (by simp)) hs.flat hs.cap (by omega) (hfit.fits (by omega)) λ h q' l' k' ct' hs' hO => ?_
 refine ⟨_, _, _, _, rfl, If.f rfl ?_⟩
 (repeat (first | refine NN.go ?_ | refine LdI.g hO ?_ | refine LdSl.g hO ?_ | refine LdP.g hO ?_ | refine LdM.g hO ?_ | refine LdB.g hO ?_ | refine cell_g hO ?_ | refine Rq.go (by omega) ?_ | refine Rng.go (by omega) ?_ | (refine st1.g hO ?_; clear hO; intro h hO; dsimp only [ad, List.set] at hO)))
 (refine newK.go hO ?_; clear hO; intro r h hO)
 (repeat (first | refine NN.go ?_ | refine LdI.g hO ?_ | refine LdSl.g hO ?_ | refine LdP.g hO ?_ | refine LdM.g hO ?_ | refine LdB.g hO ?_ | refine cell_g hO ?_ | refine Rq.go (by omega) ?_ | refine Rng.go (by omega) ?_ | (refine st1.g hO ?_; clear hO; intro h hO; dsimp only [ad, List.set] at hO)))
 (refine newK.go hO ?_; clear hO; intro r h hO)
 (repeat (first | refine NN.go ?_ | refine LdI.g hO ?_ | refine LdSl.g hO ?_ | refine LdP.g hO ?_ | refine LdM.g hO ?_ | refine LdB.g hO ?_ | refine cell_g hO ?_ | refine Rq.go (by omega) ?_ | refine Rng.go (by omega) ?_ | (refine st1.g hO ?_; clear hO; intro h hO; dsimp only [ad, List.set] at hO)))
 have hl2 := hs2.len
 refine append1F tEd hO hs2 (y := ⟨x.have_, { o with client := x.id, seq := x.made + 1 }⟩) rfl (by omega) λ h p2 c2 cp2 hs3 hO => ?_
 refine ⟨_, _, _, rfl, ?_⟩
 (repeat (first | refine NN.go ?_ | refine LdI.g hO ?_ | refine LdSl.g hO ?_ | refine LdP.g hO ?_ | refine LdM.g hO ?_ | refine LdB.g hO ?_ | refine cell_g hO ?_ | refine Rq.go (by omega) ?_ | refine Rng.go (by omega) ?_ | (refine st1.g hO ?_; clear hO; intro h hO; dsimp only [ad, List.set] at hO)))
 obtain ⟨fb, hfb⟩ : ∃ fb, pf = some ⟨fb, 0, none⟩ := by obtain ⟨fb, _, _, _, _, e, _⟩ := hf; exact ⟨fb, e⟩
 subst hfb
 (repeat (first | refine NN.go ?_ | refine LdI.g hO ?_ | refine LdSl.g hO ?_ | refine LdP.g hO ?_ | refine LdM.g hO ?_ | refine LdB.g hO ?_ | refine cell_g hO ?_ | refine Rq.go (by omega) ?_ | refine Rng.go (by omega) ?_ | (refine st1.g hO ?_; clear hO; intro h hO; dsimp only [ad, List.set] at hO)))
 refine spaceKeep (mark := x.made + 1) (op := { o with client := x.id, seq := x.made + 1 }) hO hf (by omega) hfit.ch (hfit.valid (by omega)) (by omega) λ h cf' hf' hO => ?_
 refine ⟨_, rfl, ?_⟩
 (repeat (first | refine NN.go ?_ | refine LdI.g hO ?_ | refine LdSl.g hO ?_ | refine LdP.g hO ?_ | refine LdM.g hO ?_ | refine LdB.g hO ?_ | refine cell_g hO ?_ | refine Rq.go (by omega) ?_ | refine Rng.go (by omega) ?_ | (refine st1.g hO ?_; clear hO; intro h hO; dsimp only [ad, List.set] at hO)))
 refine If.t (by simpa using hep) ?_
 (repeat (first | refine NN.go ?_ | refine LdI.g hO ?_ | refine LdSl.g hO ?_ | refine LdP.g hO ?_ | refine LdM.g hO ?_ | refine LdB.g hO ?_ | refine cell_g hO ?_ | refine Rq.go (by omega) ?_ | refine Rng.go (by omega) ?_ | (refine st1.g hO ?_; clear hO; intro h hO; dsimp only [ad, List.set] at hO)))
 refine outPush (e := ⟨x.have_, { o with client := x.id, seq := x.made + 1 }⟩) hO ho (by omega) λ h co' ho' hO => ?_
 refine ⟨_, _, rfl, ?_⟩
 unfold S103_k1
 (repeat (first | refine NN.go ?_ | refine LdI.g hO ?_ | refine LdSl.g hO ?_ | refine LdP.g hO ?_ | refine LdM.g hO ?_ | refine LdB.g hO ?_ | refine cell_g hO ?_ | refine Rq.go (by omega) ?_ | refine Rng.go (by omega) ?_ | (refine st1.g hO ?_; clear hO; intro h hO; dsimp only [ad, List.set] at hO)))
 have hO2 : Own G h ([single b (clB po pi pt pv x.id x.epoch (x.made + 1) x.have_ x.base q' l' k' p2 (l2 + 1) c2 (some ⟨fb, 0, none⟩) x.last), ct', cp2, co', ci, cf'] ++ R) := by (refine hO.sp λ a => ?_; simp only [clB, cnt_app, List.append_eq, cnt_cons, cnt_nil]; omega)
 obtain ⟨hj, hO⟩ := Own.closeJ hO2
 exact hK _ _ ⟨b, po, pi, pt, pv, q', l', k', ct', p2, _, c2, cp2, _, co', ci, cf', rfl, h65, hs', hs3, ho', hi, hf', hj⟩ hO
end Go.Sl
set_option maxRecDepth 100000
namespace Go.Sl
open Go Go.Proofs
variable {G h : Heap} {L R : List Heap} {K : Value -> Heap -> Prop} {Kp : PK}
theorem wrap_u8 {x : Int} (h0 : 0 <= x) (h1 : x < 256) : IntKind.u8.wrap x = x := by
 have : IntKind.u8.wrap x = x % 256 := by simp [IntKind.wrap, IntKind.signed, IntKind.bits]
 rw [this]; omega
structure Cl.Can (x : Cl) : Prop where
 tx : x.text.length <= 3999
 md : 0 <= x.made /\ x.made < 64
 fl : x.flast <= x.made
 fo : x.forms.length <= 4000
 le : x.left.length <= 4000
 pe : x.pend.length <= 4000
 ep : 0 < x.epoch
 id : 1 <= x.id /\ x.id <= 64
theorem clInsert {p : Option Addr} {x : Cl} {c : Heap} {pos ch : Int} (hO : Own G h L) [t : Take L c R] (hq : ClientP p x c) (hcan : x.Can) (hp : 0 <= pos /\ pos <= x.text.length) (hch : 32 <= ch /\ ch <= 126)
  (hK : ∀ h' c', ClientP p (x.edited ⟨1, pos, ch, 0, 0⟩) c' -> Own G h' (c' :: R) -> K (.tuple #[edV ⟨x.have_, ⟨1, pos, ch, x.id, x.made + 1⟩⟩, .int .i64 0]) h') : CallF Tryz.prog G 76 #[.pointer p, .int .i64 pos, .int .i64 ch] K Kp h := by
 refine S76_ok ?_
 unfold S76
 have hq' := hq
 obtain ⟨b, po, pi, pt, pv, q, l, k, ct, q2, l2, k2, cp, pf, co, ci, cf, rfl, h65, hs, hs2, ho, hi, hf, hj⟩ := hq'
 have hln := hs.len
 subst hln
 refine newK.go hO ?_
 clear hO; intro r h hO
 have hO' : Own G h (single b (clB po pi pt pv x.id x.epoch x.made x.have_ x.base q x.text.length k q2 l2 k2 pf x.last) :: ct :: cp :: co :: ci :: cf :: single r _ :: R) := Own.openJ ((hO.perm ((List.Perm.swap _ _ _).trans (t.perm.cons _))) : Own G h (c :: single r _ :: R)) hj
 refine If.dec (λ e => by omega) λ _ => ?_
 unfold S76_k1
 refine If.dec (λ e => by omega) λ _ => ?_
 refine If.dec (λ e => by omega) λ _ => ?_
 refine NN.go (LdSl.go hO' (by with_unfolding_all rfl) ?_)
 unfold S76_k2
 refine If.dec (λ e => by omega) λ _ => ?_
 rw [wrap_u8 (by omega) (by omega)]
 refine clEdit (x := x) (o := ⟨1, pos, ch, 0, 0⟩) hO hq hcan.tx hcan.md ⟨.inr (.inl ⟨rfl, hch.1, hch.2, hp.1, hp.2⟩), hcan.id, by have := hcan.md; simp only; omega⟩ hcan.fl hcan.fo hcan.le hcan.pe hcan.ep λ h c' hc' hO => ?_
 refine ⟨_, _, _, _, _, _, _, rfl, ?_⟩
 (repeat (first | refine NN.go ?_ | refine LdI.g hO ?_ | refine LdSl.g hO ?_ | refine LdP.g hO ?_ | refine LdM.g hO ?_ | refine LdB.g hO ?_ | refine cell_g hO ?_ | refine Rq.go (by omega) ?_ | refine Rng.go (by omega) ?_ | (refine st1.g hO ?_; clear hO; intro h hO; dsimp only [ad, List.set] at hO)))
 exact hK _ _ hc' (by (refine hO.sp λ a => ?_; simp only [cnt_app, List.append_eq, cnt_cons, cnt_nil]; omega))
theorem clDelete {p : Option Addr} {x : Cl} {c : Heap} {pos : Int} (hO : Own G h L) [t : Take L c R] (hq : ClientP p x c) (hcan : x.Can) (hp : 0 <= pos /\ pos < x.text.length)
  (hK : ∀ h' c', ClientP p (x.edited ⟨2, pos, 0, 0, 0⟩) c' -> Own G h' (c' :: R) -> K (.tuple #[edV ⟨x.have_, ⟨2, pos, 0, x.id, x.made + 1⟩⟩, .int .i64 0]) h') : CallF Tryz.prog G 75 #[.pointer p, .int .i64 pos] K Kp h := by
 refine S75_ok ?_
 unfold S75
 have hq' := hq
 obtain ⟨b, po, pi, pt, pv, q, l, k, ct, q2, l2, k2, cp, pf, co, ci, cf, rfl, h65, hs, hs2, ho, hi, hf, hj⟩ := hq'
 have hln := hs.len
 subst hln
 refine newK.go hO ?_
 clear hO; intro r h hO
 have hO' : Own G h (single b (clB po pi pt pv x.id x.epoch x.made x.have_ x.base q x.text.length k q2 l2 k2 pf x.last) :: ct :: cp :: co :: ci :: cf :: single r _ :: R) := Own.openJ ((hO.perm ((List.Perm.swap _ _ _).trans (t.perm.cons _))) : Own G h (c :: single r _ :: R)) hj
 refine If.dec (λ e => by omega) λ _ => ?_
 refine NN.go (LdSl.go hO' (by with_unfolding_all rfl) ?_)
 unfold S75_k1
 refine If.dec (λ e => by omega) λ _ => ?_
 refine clEdit (x := x) (o := ⟨2, pos, 0, 0, 0⟩) hO hq hcan.tx hcan.md ⟨.inr (.inr ⟨rfl, rfl, hp.1, hp.2⟩), hcan.id, by have := hcan.md; simp only; omega⟩ hcan.fl hcan.fo hcan.le hcan.pe hcan.ep λ h c' hc' hO => ?_
 refine ⟨_, _, _, _, _, _, _, rfl, ?_⟩
 (repeat (first | refine NN.go ?_ | refine LdI.g hO ?_ | refine LdSl.g hO ?_ | refine LdP.g hO ?_ | refine LdM.g hO ?_ | refine LdB.g hO ?_ | refine cell_g hO ?_ | refine Rq.go (by omega) ?_ | refine Rng.go (by omega) ?_ | (refine st1.g hO ?_; clear hO; intro h hO; dsimp only [ad, List.set] at hO)))
 exact hK _ _ hc' (by (refine hO.sp λ a => ?_; simp only [cnt_app, List.append_eq, cnt_cons, cnt_nil]; omega))
structure Cl.Acc (x : Cl) (o : Op) : Prop where
 tx : x.text.length <= 3999
 fo : x.forms.length <= 4000
 pe : x.pend.length <= 4000
 fp : ∀ l ∈ x.forms.map (·.op), 0 <= l.pos /\ l.pos <= 100000
 fit : FitP 4000 o
 own : o.client = x.id -> (∃ mk rest, x.forms = ⟨mk, o⟩ :: rest) /\ x.pend ≠ []
 other : o.client ≠ x.id -> x.last[o.client.toNat]? = some (o.seq - 1) /\ FitP x.text.length (pastO o (x.forms.map (·.op)) false).1
theorem clAccepts {p : Option Addr} {x : Cl} {c : Heap} {o : Op} (hT : Gt G) (hO : Own G h L) [t : Take L c R] (hq : ClientP p x c) (hacc : x.Acc o)
  (hK : ∀ h', Own G h' L -> K (.int .i64 0) h') : CallF Tryz.prog G 170 #[.pointer p, opV o] K Kp h := by
 refine S170_ok ?_
 unfold S170
 obtain ⟨b, po, pi, pt, pv, q, l, k, ct, q2, l2, k2, cp, pf, co, ci, cf, rfl, h65, hs, hs2, ho, hi, hf, hj⟩ := hq
 have fo := hacc.fo
 have tx := hacc.tx
 have hcl := hacc.fit.c
 (have hO := (hO.perm t.perm).openJ hj; simp only [List.cons_append, List.nil_append] at hO)
 have hln := hs.len
 subst hln
 (refine newK.go hO ?_; clear hO; intro r h hO)
 (repeat (first | refine NN.go ?_ | refine LdI.g hO ?_ | refine LdSl.g hO ?_ | refine LdP.g hO ?_ | refine LdM.g hO ?_ | refine LdB.g hO ?_ | refine cell_g hO ?_ | refine Rq.go (by omega) ?_ | refine Rng.go (by omega) ?_ | (refine st1.g hO ?_; clear hO; intro h hO; dsimp only [ad, List.set] at hO)))
 refine If.mk (λ e => ?_) (λ e => ?_)
 ·have e' : o.client = x.id := by simpa using e
  obtain ⟨⟨mk, rest, hfm⟩, hpe⟩ := hacc.own e'
  (repeat (first | refine NN.go ?_ | refine LdI.g hO ?_ | refine LdSl.g hO ?_ | refine LdP.g hO ?_ | refine LdM.g hO ?_ | refine LdB.g hO ?_ | refine cell_g hO ?_ | refine Rq.go (by omega) ?_ | refine Rng.go (by omega) ?_ | (refine st1.g hO ?_; clear hO; intro h hO; dsimp only [ad, List.set] at hO)))
  obtain ⟨fb, hfb⟩ : ∃ fb, pf = some ⟨fb, 0, none⟩ := by obtain ⟨fb, _, _, _, _, e, _⟩ := hf; exact ⟨fb, e⟩
  subst hfb
  (repeat (first | refine NN.go ?_ | refine LdI.g hO ?_ | refine LdSl.g hO ?_ | refine LdP.g hO ?_ | refine LdM.g hO ?_ | refine LdB.g hO ?_ | refine cell_g hO ?_ | refine Rq.go (by omega) ?_ | refine Rng.go (by omega) ?_ | (refine st1.g hO ?_; clear hO; intro h hO; dsimp only [ad, List.set] at hO)))
  refine spaceQueue hO hf (by omega) λ h p' c' pc hs' hO => ?_
  refine ⟨_, _, _, rfl, If.f (by rw [hfm]; simp only [List.length_cons, beq_eq_false_iff_ne]; omega) ?_⟩
  refine Rq.go (by rw [hfm]; simp only [List.length_cons]; omega) ?_
  obtain ⟨y, hy, hn'⟩ := (hs'.rdO hO (by simp)).at eMk_ok hO (i := 0) (by omega) (by rw [hfm]; simp only [List.length_cons]; omega)
  rw [hfm] at hy
  simp only [Int.toNat_zero, List.getElem?_cons_zero, Option.some.injEq] at hy
  subst hy
  refine hn' _ λ a _ hc => ?_
  refine LdI.i (hc 1 _ rfl) (LdI.i (hc 2 _ rfl) (LdI.i (hc 3 _ rfl) (LdI.i (hc 4 _ rfl) (LdI.i (hc 5 _ rfl) ?_))))
  (repeat (first | refine NN.go ?_ | refine LdI.g hO ?_ | refine LdSl.g hO ?_ | refine LdP.g hO ?_ | refine LdM.g hO ?_ | refine LdB.g hO ?_ | refine cell_g hO ?_ | refine Rq.go (by omega) ?_ | refine Rng.go (by omega) ?_ | (refine st1.g hO ?_; clear hO; intro h hO; dsimp only [ad, List.set] at hO)))
  unfold S170_k1
  refine If.f (by simp) ?_
  exact hK _ (Own.reclose hj t.perm (by (refine hO.sp λ a => ?_; simp only [cnt_app, List.append_eq, cnt_cons, cnt_nil]; omega)))
 ·have e' : o.client ≠ x.id := by simpa using e
  obtain ⟨hla, hfit⟩ := hacc.other e'
  have hv := hacc.fit.valid (by omega)
  have hch := hacc.fit.ch
  have hpo := hacc.fit.pos
  have fin : ∀ {h : Heap} {r2 : Nat} {mo : Op}, FitP x.text.length mo -> Own G h (single r2 (.cells #[.int .i64 mo.kind, .int .i64 mo.pos, .int .u8 mo.ch, .int .i64 mo.client, .int .i64 mo.seq] 84 (0, 0)) :: single r (.cells #[.int .i64 o.kind, .int .i64 o.pos, .int .u8 o.ch, .int .i64 o.client, .int .i64 o.seq] 84 (0, 0)) :: single b (clB po pi pt pv x.id x.epoch x.made x.have_ x.base q x.text.length k q2 l2 k2 pf x.last) :: ct :: cp :: co :: ci :: cf :: R) ->
    S170_k2 G K Kp r (some ⟨b, 0, none⟩) ⟨r2, 0, none⟩ 0 h := λ {h r2 mo} hfit hO => by
   unfold S170_k2
   refine If.f rfl ?_
   (repeat (first | refine NN.go ?_ | refine LdI.g hO ?_ | refine LdSl.g hO ?_ | refine LdP.g hO ?_ | refine LdM.g hO ?_ | refine LdB.g hO ?_ | refine cell_g hO ?_ | refine Rq.go (by omega) ?_ | refine Rng.go (by omega) ?_ | (refine st1.g hO ?_; clear hO; intro h hO; dsimp only [ad, List.set] at hO)))
   rw [add_mk]
   refine LdI.go hO (clB_last hla) ?_
   refine Rng.go (by have := hacc.fit.s; omega) (If.f (by simp) ?_)
   (repeat (first | refine NN.go ?_ | refine LdI.g hO ?_ | refine LdSl.g hO ?_ | refine LdP.g hO ?_ | refine LdM.g hO ?_ | refine LdB.g hO ?_ | refine cell_g hO ?_ | refine Rq.go (by omega) ?_ | refine Rng.go (by omega) ?_ | (refine st1.g hO ?_; clear hO; intro h hO; dsimp only [ad, List.set] at hO)))
   refine docFits (n := x.text.length) (o := mo) hO hfit.ch λ h hO => ?_
   refine ⟨_, rfl, ?_⟩
   (repeat (first | refine NN.go ?_ | refine LdI.g hO ?_ | refine LdSl.g hO ?_ | refine LdP.g hO ?_ | refine LdM.g hO ?_ | refine LdB.g hO ?_ | refine cell_g hO ?_ | refine Rq.go (by omega) ?_ | refine Rng.go (by omega) ?_ | (refine st1.g hO ?_; clear hO; intro h hO; dsimp only [ad, List.set] at hO)))
   unfold S170_k3
   refine If.f (by rw [hfit.fits (by omega)]; rfl) ?_
   exact hK _ (Own.reclose hj t.perm (by (refine hO.sp λ a => ?_; simp only [cnt_app, List.append_eq, cnt_cons, cnt_nil]; omega)))
  (repeat (first | refine NN.go ?_ | refine LdI.g hO ?_ | refine LdSl.g hO ?_ | refine LdP.g hO ?_ | refine LdM.g hO ?_ | refine LdB.g hO ?_ | refine cell_g hO ?_ | refine Rq.go (by omega) ?_ | refine Rng.go (by omega) ?_ | (refine st1.g hO ?_; clear hO; intro h hO; dsimp only [ad, List.set] at hO)))
  refine ⟨?_, ?_⟩
  ·refine spaceLook (op := o) hT hO hf (by omega) hch hv (by omega) hacc.fp λ h hO => ?_
   refine ⟨_, _, _, _, _, _, rfl, ?_⟩
   refine newK.go hO ?_
   clear hO; intro r2 h hO
   (repeat (with_reducible first | refine NN.go ?_ | refine LdI.g hO ?_ | refine LdSl.g hO ?_ | refine LdP.g hO ?_ | refine LdM.g hO ?_ | refine LdB.g hO ?_ | refine cell_g hO ?_ | refine Rq.go (by omega) ?_ | refine Rng.go (by omega) ?_ | (refine st1.g hO ?_; clear hO; intro h hO; dsimp only [ad, List.set] at hO)))
   exact fin hfit hO
  ·refine newK.go hO ?_
   clear hO; intro r2 h hO
   (repeat (first | refine NN.go ?_ | refine LdI.g hO ?_ | refine LdSl.g hO ?_ | refine LdP.g hO ?_ | refine LdM.g hO ?_ | refine LdB.g hO ?_ | refine cell_g hO ?_ | refine Rq.go (by omega) ?_ | refine Rng.go (by omega) ?_ | (refine st1.g hO ?_; clear hO; intro h hO; dsimp only [ad, List.set] at hO)))
   refine spaceLook (op := o) hT hO hf (by omega) hch hv (by omega) hacc.fp λ h hO => ?_
   refine ⟨_, _, _, _, _, _, rfl, ?_⟩
   (repeat (with_reducible first | refine NN.go ?_ | refine LdI.g hO ?_ | refine LdSl.g hO ?_ | refine LdP.g hO ?_ | refine LdM.g hO ?_ | refine LdB.g hO ?_ | refine cell_g hO ?_ | refine Rq.go (by omega) ?_ | refine Rng.go (by omega) ?_ | (refine st1.g hO ?_; clear hO; intro h hO; dsimp only [ad, List.set] at hO)))
   exact fin hfit hO
end Go.Sl
set_option maxRecDepth 100000
namespace Go.Sl
open Go Go.Proofs
variable {G h : Heap} {L R : List Heap} {K : Value -> Heap -> Prop} {Kp : PK}
def Cl.recvd (x : Cl) (o : Op) : Cl :=
 if o.client = x.id then { x with cum := x.cum + 1, held := none, have_ := x.have_ + 1, pend := x.pend.drop 1, forms := dropM o.seq x.forms }
 else { x with cum := x.cum + 1, held := none, have_ := x.have_ + 1, last := x.last.set o.client.toNat o.seq, forms := remk x.forms (pastO o (x.forms.map (·.op)) false).2, text := applyD x.text (pastO o (x.forms.map (·.op)) false).1 }
theorem clTakeA {p : Option Addr} {x : Cl} {o : Op} {c : Heap} {jv : Nat -> Value} {Kn : List Value -> Heap -> Prop} (hT : Gt G) (hx : x.held = some o) (hO : Own G h (c :: R)) (hq : ClientP p x c) (hacc : x.Acc o) (hcum : 0 <= x.cum /\ x.cum < 4096) (hhav : 0 <= x.have_ /\ x.have_ <= 100000)
  (hKn : ∀ h' c', ClientP p (x.recvd o) c' -> Own G h' (c' :: R) -> Kn [] h') : S139_l0 G K Kp p jv [] Kn h := by
 unfold S139_l0
 refine ⟨rfl, ?_⟩
 have hq' := hq
 obtain ⟨b, po, pi, pt, pv, q, l, k, ct, q2, l2, k2, cp, pf, co, ci, cf, rfl, h65, hs, hs2, ho, hi, hf, hj⟩ := hq'
 have hO := hO.openJ hj
 simp only [List.cons_append, List.nil_append] at hO
 have fo := hacc.fo
 have tx := hacc.tx
 have hcl := hacc.fit.c
 have hln := hs.len
 subst hln
 (repeat (first | refine NN.go ?_ | refine LdI.g hO ?_ | refine LdSl.g hO ?_ | refine LdP.g hO ?_ | refine LdM.g hO ?_ | refine LdB.g hO ?_ | refine cell_g hO ?_ | refine Rq.go (by omega) ?_ | refine Rng.go (by omega) ?_ | (refine st1.g hO ?_; clear hO; intro h hO; dsimp only [ad, List.set] at hO)))
 refine inHead hO hi (by omega) λ h hO => ?_
 rw [hx, Option.getD_some]
 refine ⟨_, _, _, _, _, _, rfl, ?_⟩
 refine newK.go hO ?_
 clear hO; intro r h hO
 (repeat (with_reducible first | refine NN.go ?_ | refine LdI.g hO ?_ | refine LdSl.g hO ?_ | refine LdP.g hO ?_ | refine LdM.g hO ?_ | refine LdB.g hO ?_ | refine cell_g hO ?_ | refine Rq.go (by omega) ?_ | refine Rng.go (by omega) ?_ | (refine st1.g hO ?_; clear hO; intro h hO; dsimp only [ad, List.set] at hO)))
 refine If.f rfl ?_
 (repeat (with_reducible first | refine NN.go ?_ | refine LdI.g hO ?_ | refine LdSl.g hO ?_ | refine LdP.g hO ?_ | refine LdM.g hO ?_ | refine LdB.g hO ?_ | refine cell_g hO ?_ | refine Rq.go (by omega) ?_ | refine Rng.go (by omega) ?_ | (refine st1.g hO ?_; clear hO; intro h hO; dsimp only [ad, List.set] at hO)))
 have hO2 : Own G h (c :: single r (.cells #[.int .i64 o.kind, .int .i64 o.pos, .int .u8 o.ch, .int .i64 o.client, .int .i64 o.seq] 84 (0, 0)) :: R) := Own.closeWith hj (by (refine hO.sp λ a => ?_; simp only [cnt_app, List.append_eq, cnt_cons, cnt_nil]; omega))
 refine clAccepts (o := o) hT hO2 hq hacc λ h hO => ?_
 have hO := hO.openJ hj
 simp only [List.cons_append, List.nil_append] at hO
 refine ⟨_, rfl, If.f rfl ?_⟩
 (repeat (with_reducible first | refine NN.go ?_ | refine LdI.g hO ?_ | refine LdSl.g hO ?_ | refine LdP.g hO ?_ | refine LdM.g hO ?_ | refine LdB.g hO ?_ | refine cell_g hO ?_ | refine Rq.go (by omega) ?_ | refine Rng.go (by omega) ?_ | (refine st1.g hO ?_; clear hO; intro h hO; dsimp only [ad, List.set] at hO)))
 rw [hx] at hi
 refine inPop hO hi hcum λ h ci' hi' hO => ?_
 refine ⟨_, rfl, ?_⟩
 (repeat (with_reducible first | refine NN.go ?_ | refine LdI.g hO ?_ | refine LdSl.g hO ?_ | refine LdP.g hO ?_ | refine LdM.g hO ?_ | refine LdB.g hO ?_ | refine cell_g hO ?_ | refine Rq.go (by omega) ?_ | refine Rng.go (by omega) ?_ | (refine st1.g hO ?_; clear hO; intro h hO; dsimp only [ad, List.set] at hO)))
 refine If.mk (λ e => ?_) (λ e => ?_)
 ·have e' : o.client = x.id := by simpa using e
  obtain ⟨⟨mk, rest, hfm⟩, hpe⟩ := hacc.own e'
  have hl2 := hs2.len
  have hl1 : 1 <= l2 := by
   rw [hl2]
   cases hp : x.pend with
   | nil => exact absurd hp hpe
   | cons a l => simp
  (repeat (with_reducible first | refine NN.go ?_ | refine LdI.g hO ?_ | refine LdSl.g hO ?_ | refine LdP.g hO ?_ | refine LdM.g hO ?_ | refine LdB.g hO ?_ | refine cell_g hO ?_ | refine Rq.go (by omega) ?_ | refine Rng.go (by omega) ?_ | (refine st1.g hO ?_; clear hO; intro h hO; dsimp only [ad, List.set] at hO)))
  obtain ⟨fb, hfb⟩ : ∃ fb, pf = some ⟨fb, 0, none⟩ := by obtain ⟨fb, _, _, _, _, e, _⟩ := hf; exact ⟨fb, e⟩
  subst hfb
  (repeat (with_reducible first | refine NN.go ?_ | refine LdI.g hO ?_ | refine LdSl.g hO ?_ | refine LdP.g hO ?_ | refine LdM.g hO ?_ | refine LdB.g hO ?_ | refine cell_g hO ?_ | refine Rq.go (by omega) ?_ | refine Rng.go (by omega) ?_ | (refine st1.g hO ?_; clear hO; intro h hO; dsimp only [ad, List.set] at hO)))
  refine spaceDropTo (mark := o.seq) hO hf (by omega) λ h cf' n hf' hO => ?_
  refine ⟨_, rfl, ?_⟩
  have hO2 : Own G h ([single b (clB po pi pt pv x.id x.epoch x.made (x.have_ + 1) x.base q x.text.length k (subA q2 1 k2 6) (l2 - 1) (k2 - 1) (some ⟨fb, 0, none⟩) x.last), ct, cp, co, ci', cf'] ++ R) := by (refine hO.sp λ a => ?_; simp only [clB, cnt_app, List.append_eq, cnt_cons, cnt_nil]; omega)
  obtain ⟨hj, hO⟩ := Own.closeJ hO2
  refine hKn _ _ ?_ hO
  unfold Cl.recvd
  rw [if_pos e']
  exact ⟨b, po, pi, pt, pv, q, _, k, ct, _, _, _, cp, _, co, ci', cf', rfl, h65, hs, hs2.tail 1 hl1, ho, hi', hf', hj⟩
 ·have e' : o.client ≠ x.id := by simpa using e
  obtain ⟨hla, hfit⟩ := hacc.other e'
  have hv := hacc.fit.valid (by omega)
  have hch := hacc.fit.ch
  have hpo := hacc.fit.pos
  have hpl : (pastO o (x.forms.map (·.op)) false).2.length = x.forms.length := by rw [past_pst, pst_len, List.length_map]
  have hla' := (List.getElem?_eq_some_iff.1 hla).1
  (repeat (with_reducible first | refine NN.go ?_ | refine LdI.g hO ?_ | refine LdSl.g hO ?_ | refine LdP.g hO ?_ | refine LdM.g hO ?_ | refine LdB.g hO ?_ | refine cell_g hO ?_ | refine Rq.go (by omega) ?_ | refine Rng.go (by omega) ?_ | (refine st1.g hO ?_; clear hO; intro h hO; dsimp only [ad, List.set] at hO)))
  rw [add_mk]
  refine st1.go hO (clB_set hla') ?_
  clear hO; intro h hO
  (repeat (with_reducible first | refine NN.go ?_ | refine LdI.g hO ?_ | refine LdSl.g hO ?_ | refine LdP.g hO ?_ | refine LdM.g hO ?_ | refine LdB.g hO ?_ | refine cell_g hO ?_ | refine Rq.go (by omega) ?_ | refine Rng.go (by omega) ?_ | (refine st1.g hO ?_; clear hO; intro h hO; dsimp only [ad, List.set] at hO)))
  have fin : ∀ {h : Heap} {r2 : Nat} {mo : Op} {cf' : Heap} {fs : List Op}, FitP x.text.length mo -> (applyD x.text mo = (x.recvd o).text) -> SpaceP pf (x.recvd o).forms x.flast false cf' -> Own G h (single r2 (.cells #[.int .i64 mo.kind, .int .i64 mo.pos, .int .u8 mo.ch, .int .i64 mo.client, .int .i64 mo.seq] 84 (0, 0)) :: cf' :: single b (clB po pi pt pv x.id x.epoch x.made (x.have_ + 1) x.base q x.text.length k q2 l2 k2 pf (x.last.set o.client.toNat o.seq)) :: ct :: cp :: co :: ci' :: R) ->
    S139_k1 G K Kp (some ⟨b, 0, none⟩) Kn ⟨r2, 0, none⟩ h := λ {h r2 mo cf' fs} hfit htx hf' hO => by
   unfold S139_k1
   (repeat (first | refine NN.go ?_ | refine LdI.g hO ?_ | refine LdSl.g hO ?_ | refine LdP.g hO ?_ | refine LdM.g hO ?_ | refine LdB.g hO ?_ | refine cell_g hO ?_ | refine Rq.go (by omega) ?_ | refine Rng.go (by omega) ?_ | (refine st1.g hO ?_; clear hO; intro h hO; dsimp only [ad, List.set] at hO)))
   refine docApply (o := mo) hO hfit.ch (hs.rdO hO (by simp)) hs.flat hs.cap (by omega) (hfit.fits (by omega)) λ h q' l' k' ct' hs' hO => ?_
   refine ⟨_, _, _, _, rfl, ?_⟩
   (repeat (first | refine NN.go ?_ | refine LdI.g hO ?_ | refine LdSl.g hO ?_ | refine LdP.g hO ?_ | refine LdM.g hO ?_ | refine LdB.g hO ?_ | refine cell_g hO ?_ | refine Rq.go (by omega) ?_ | refine Rng.go (by omega) ?_ | (refine st1.g hO ?_; clear hO; intro h hO; dsimp only [ad, List.set] at hO)))
   have hO2 : Own G h ([single b (clB po pi pt pv x.id x.epoch x.made (x.have_ + 1) x.base q' l' k' q2 l2 k2 pf (x.last.set o.client.toNat o.seq)), ct', cp, co, ci', cf'] ++ R) := by (refine hO.sp λ a => ?_; simp only [clB, cnt_app, List.append_eq, cnt_cons, cnt_nil]; omega)
   obtain ⟨hj, hO⟩ := Own.closeJ hO2
   refine hKn _ _ ?_ hO
   rw [htx] at hs'
   unfold Cl.recvd at hs' hf' ⊢
   rw [if_neg e'] at hs' hf' ⊢
   exact ⟨b, po, pi, pt, pv, q', l', k', ct', q2, l2, k2, cp, pf, co, ci', cf', rfl, by rw [List.length_set]; exact h65, hs', hs2, ho, hi', hf', hj⟩
  have e1 : (x.recvd o).text = applyD x.text (pastO o (x.forms.map (·.op)) false).1 := by unfold Cl.recvd; rw [if_neg e']
  have e2 : (x.recvd o).forms = remk x.forms (pastO o (x.forms.map (·.op)) false).2 := by unfold Cl.recvd; rw [if_neg e']
  refine ⟨?_, ?_⟩
  ·refine spaceCross (op := o) hT hO hf (by omega) hch hv (by omega) hacc.fp hpl λ h cf' hf' hO => ?_
   refine ⟨_, _, _, _, _, _, rfl, ?_⟩
   refine newK.go hO ?_
   clear hO; intro r2 h hO
   (repeat (with_reducible first | refine NN.go ?_ | refine LdI.g hO ?_ | refine LdSl.g hO ?_ | refine LdP.g hO ?_ | refine LdM.g hO ?_ | refine LdB.g hO ?_ | refine cell_g hO ?_ | refine Rq.go (by omega) ?_ | refine Rng.go (by omega) ?_ | (refine st1.g hO ?_; clear hO; intro h hO; dsimp only [ad, List.set] at hO)))
   exact fin (fs := []) hfit e1.symm (e2 ▸ hf') (by (refine hO.sp λ a => ?_; simp only [clB, cnt_app, List.append_eq, cnt_cons, cnt_nil]; omega))
  ·refine newK.go hO ?_
   clear hO; intro r2 h hO
   (repeat (with_reducible first | refine NN.go ?_ | refine LdI.g hO ?_ | refine LdSl.g hO ?_ | refine LdP.g hO ?_ | refine LdM.g hO ?_ | refine LdB.g hO ?_ | refine cell_g hO ?_ | refine Rq.go (by omega) ?_ | refine Rng.go (by omega) ?_ | (refine st1.g hO ?_; clear hO; intro h hO; dsimp only [ad, List.set] at hO)))
   refine spaceCross (op := o) hT hO hf (by omega) hch hv (by omega) hacc.fp hpl λ h cf' hf' hO => ?_
   refine ⟨_, _, _, _, _, _, rfl, ?_⟩
   (repeat (with_reducible first | refine NN.go ?_ | refine LdI.g hO ?_ | refine LdSl.g hO ?_ | refine LdP.g hO ?_ | refine LdM.g hO ?_ | refine LdB.g hO ?_ | refine cell_g hO ?_ | refine Rq.go (by omega) ?_ | refine Rng.go (by omega) ?_ | (refine st1.g hO ?_; clear hO; intro h hO; dsimp only [ad, List.set] at hO)))
   exact fin (fs := []) hfit e1.symm (e2 ▸ hf') (by (refine hO.sp λ a => ?_; simp only [clB, cnt_app, List.append_eq, cnt_cons, cnt_nil]; omega))
theorem clTakeIn {p : Option Addr} {x : Cl} {c : Heap} {o : Op} (hT : Gt G) (hO : Own G h L) [t : Take L c R] (hx : x.held = some o) (hq : ClientP p x c) (hacc : x.Acc o) (hcum : 0 <= x.cum /\ x.cum < 4096) (hhav : 0 <= x.have_ /\ x.have_ <= 100000)
  (hK : ∀ h' c', ClientP p (x.recvd o) c' -> Own G h' (c' :: R) -> K (.tuple #[]) h') : CallF Tryz.prog G 139 #[.pointer p] K Kp h := by
 refine S139_ok ?_
 unfold S139
 have hO : Own G h (c :: R) := hO.perm t.perm
 clear t
 refine LoopS.go (λ vs h => vs = [] /\ ((∃ c, ClientP p x c /\ Own G h (c :: R)) ∨ (∃ c, ClientP p (x.recvd o) c /\ Own G h (c :: R)))) (λ _ h => open Classical in if (∃ c, ClientP p (x.recvd o) c /\ Own G h (c :: R)) then 0 else 1) ⟨rfl, .inl ⟨c, hq, hO⟩⟩ ?_
 clear hO hq
 rintro jv vs h ⟨rfl, hI⟩
 by_cases hB : (∃ c, ClientP p (x.recvd o) c /\ Own G h (c :: R))
 ·unfold S139_l0
  refine ⟨rfl, ?_⟩
  obtain ⟨c, hq, hO⟩ := hB
  have hcu : (x.recvd o).cum = x.cum + 1 := by unfold Cl.recvd; split <;> rfl
  have hhe : (x.recvd o).held = none := by unfold Cl.recvd; split <;> rfl
  have hq' := hq
  obtain ⟨b, po, pi, pt, pv, q, l, k, ct, q2, l2, k2, cp, pf, co, ci, cf, rfl, h65, hs, hs2, ho, hi, hf, hj⟩ := hq'
  have hO := hO.openJ hj
  simp only [List.cons_append, List.nil_append] at hO
  (repeat (first | refine NN.go ?_ | refine LdI.g hO ?_ | refine LdSl.g hO ?_ | refine LdP.g hO ?_ | refine LdM.g hO ?_ | refine LdB.g hO ?_ | refine cell_g hO ?_ | refine Rq.go (by omega) ?_ | refine Rng.go (by omega) ?_ | (refine st1.g hO ?_; clear hO; intro h hO; dsimp only [ad, List.set] at hO)))
  refine inHead hO hi (by rw [hcu]; omega) λ h hO => ?_
  rw [hhe]
  refine ⟨_, _, _, _, _, _, rfl, ?_⟩
  (refine newK.go hO ?_; clear hO; intro r h hO)
  (repeat (with_reducible first | refine NN.go ?_ | refine LdI.g hO ?_ | refine LdSl.g hO ?_ | refine LdP.g hO ?_ | refine LdM.g hO ?_ | refine LdB.g hO ?_ | refine cell_g hO ?_ | refine Rq.go (by omega) ?_ | refine Rng.go (by omega) ?_ | (refine st1.g hO ?_; clear hO; intro h hO; dsimp only [ad, List.set] at hO)))
  refine If.t rfl ?_
  exact hK _ _ hq (Own.closeWith hj (by (refine hO.sp λ a => ?_; simp only [cnt_app, List.append_eq, cnt_cons, cnt_nil]; omega)))
 ·have hI := hI.resolve_right hB
  rw [if_neg hB]
  obtain ⟨c, hq, hO⟩ := hI
  exact clTakeA hT hx hO hq hacc hcum hhav λ h' c' h1 h2 => ⟨⟨rfl, .inr ⟨c', h1, h2⟩⟩, by rw [if_pos ⟨c', h1, h2⟩]; omega⟩
end Go.Sl
set_option maxRecDepth 100000
namespace Go.Sl
open Go Go.Proofs
variable {G h : Heap} {L R : List Heap} {K : Value -> Heap -> Prop} {Kp : PK}
theorem clInvited {p : Option Addr} {x : Cl} {c : Heap} {ep : Int} (hO : Own G h L) [t : Take L c R] (hq : ClientP p x c) (hpe : x.pend = []) (hep : ep ≠ x.epoch)
  (hK : ∀ h' c', ClientP p { x with epoch := ep, base := x.have_, cum := 0, held := none, left := [] } c' -> Own G h' (c' :: R) -> K (.tuple #[]) h') : CallF Tryz.prog G 136 #[.pointer p, .int .i64 ep] K Kp h := by
 refine S136_ok ?_
 unfold S136
 obtain ⟨b, po, pi, pt, pv, q, l, k, ct, q2, l2, k2, cp, pf, co, ci, cf, rfl, h65, hs, hs2, ho, hi, hf, hj⟩ := hq
 (have hO := (hO.perm t.perm).openJ hj; simp only [List.cons_append, List.nil_append] at hO)
 (repeat (with_reducible first | refine NN.go ?_ | refine LdI.g hO ?_ | refine LdSl.g hO ?_ | refine LdP.g hO ?_ | refine LdM.g hO ?_ | refine LdB.g hO ?_ | refine cell_g hO ?_ | refine Rq.go (by omega) ?_ | refine Rng.go (by omega) ?_ | (refine st1.g hO ?_; clear hO; intro h hO; dsimp only [ad, List.set] at hO)))
 refine If.f (by simpa using hep) ?_
 (repeat (with_reducible first | refine NN.go ?_ | refine LdI.g hO ?_ | refine LdSl.g hO ?_ | refine LdP.g hO ?_ | refine LdM.g hO ?_ | refine LdB.g hO ?_ | refine cell_g hO ?_ | refine Rq.go (by omega) ?_ | refine Rng.go (by omega) ?_ | (refine st1.g hO ?_; clear hO; intro h hO; dsimp only [ad, List.set] at hO)))
 refine inReset hO hi λ h ci' hi' hO => ⟨rfl, ?_⟩
 (repeat (with_reducible first | refine NN.go ?_ | refine LdI.g hO ?_ | refine LdSl.g hO ?_ | refine LdP.g hO ?_ | refine LdM.g hO ?_ | refine LdB.g hO ?_ | refine cell_g hO ?_ | refine Rq.go (by omega) ?_ | refine Rng.go (by omega) ?_ | (refine st1.g hO ?_; clear hO; intro h hO; dsimp only [ad, List.set] at hO)))
 refine outReset hO ho λ h co' ho' hO => ⟨rfl, ?_⟩
 (repeat (with_reducible first | refine NN.go ?_ | refine LdI.g hO ?_ | refine LdSl.g hO ?_ | refine LdP.g hO ?_ | refine LdM.g hO ?_ | refine LdB.g hO ?_ | refine cell_g hO ?_ | refine Rq.go (by omega) ?_ | refine Rng.go (by omega) ?_ | (refine st1.g hO ?_; clear hO; intro h hO; dsimp only [ad, List.set] at hO)))
 have hl2 := hs2.len
 rw [hpe] at hl2
 simp only [List.length_nil] at hl2
 subst hl2
 refine LoopS.go (λ vs h' => h' = h /\ vs = [.int .i64 0]) (λ vs _ => 0) ⟨rfl, rfl⟩ ?_
 rintro jv vs h' ⟨rfl, rfl⟩
 unfold S136_l7
 refine ⟨_, rfl, If.f (by decide) ?_⟩
 have hO2 : Own G h' ([single b (clB po pi 309 (.agg #[]) x.id ep x.made x.have_ x.have_ q l k q2 0 k2 pf x.last), ct, cp, co', ci', cf] ++ R) := by (refine hO.sp λ a => ?_; simp only [clB, cnt_app, List.append_eq, cnt_cons, cnt_nil]; omega)
 obtain ⟨hj, hO⟩ := Own.closeJ hO2
 exact hK _ _ ⟨b, po, pi, _, _, q, l, k, ct, q2, 0, k2, cp, pf, co', ci', cf, rfl, h65, hs, hs2, ho', hi', hf, hj⟩ hO
def msgV (k : Int) (ep id num rev : Int) (o : Op) : Value := .agg #[.int .i64 k, .int .i64 ep, .int .i64 id, .int .i64 0, .int .i64 0, .int .i64 num, .int .i64 0, .int .i64 rev, .int .i64 0, .int .i64 o.kind, .int .i64 o.pos, .int .u8 o.ch, .int .i64 o.client, .int .i64 o.seq]
theorem clRefInv {p : Option Addr} {x : Cl} {c : Heap} {o : Op} {ep num rev : Int} (hO : Own G h L) [t : Take L c R] (hq : ClientP p x c) (hep : x.epoch <= ep)
  (hK : ∀ h', Own G h' L -> K (.int .i64 0) h') : CallF Tryz.prog G 135 #[.pointer p, msgV 4 ep x.id num rev o] K Kp h := by
 refine S135_ok ?_
 unfold S135
 obtain ⟨b, po, pi, pt, pv, q, l, k, ct, q2, l2, k2, cp, pf, co, ci, cf, rfl, h65, hs, hs2, ho, hi, hf, hj⟩ := hq
 (have hO := (hO.perm t.perm).openJ hj; simp only [List.cons_append, List.nil_append] at hO)
 (refine newK.go hO ?_; clear hO; intro r h hO)
 (repeat (with_reducible first | refine NN.go ?_ | refine LdI.g hO ?_ | refine LdSl.g hO ?_ | refine LdP.g hO ?_ | refine LdM.g hO ?_ | refine LdB.g hO ?_ | refine cell_g hO ?_ | refine Rq.go (by omega) ?_ | refine Rng.go (by omega) ?_ | (refine st1.g hO ?_; clear hO; intro h hO; dsimp only [ad, List.set] at hO)))
 refine If.f rfl ?_
 (repeat (with_reducible first | refine NN.go ?_ | refine LdI.g hO ?_ | refine LdSl.g hO ?_ | refine LdP.g hO ?_ | refine LdM.g hO ?_ | refine LdB.g hO ?_ | refine cell_g hO ?_ | refine Rq.go (by omega) ?_ | refine Rng.go (by omega) ?_ | (refine st1.g hO ?_; clear hO; intro h hO; dsimp only [ad, List.set] at hO)))
 refine If.f rfl ?_
 (repeat (with_reducible first | refine NN.go ?_ | refine LdI.g hO ?_ | refine LdSl.g hO ?_ | refine LdP.g hO ?_ | refine LdM.g hO ?_ | refine LdB.g hO ?_ | refine cell_g hO ?_ | refine Rq.go (by omega) ?_ | refine Rng.go (by omega) ?_ | (refine st1.g hO ?_; clear hO; intro h hO; dsimp only [ad, List.set] at hO)))
 unfold S135_k1
 refine If.f rfl ?_
 (repeat (with_reducible first | refine NN.go ?_ | refine LdI.g hO ?_ | refine LdSl.g hO ?_ | refine LdP.g hO ?_ | refine LdM.g hO ?_ | refine LdB.g hO ?_ | refine cell_g hO ?_ | refine Rq.go (by omega) ?_ | refine Rng.go (by omega) ?_ | (refine st1.g hO ?_; clear hO; intro h hO; dsimp only [ad, List.set] at hO)))
 refine If.f (by simp) ?_
 (repeat (with_reducible first | refine NN.go ?_ | refine LdI.g hO ?_ | refine LdSl.g hO ?_ | refine LdP.g hO ?_ | refine LdM.g hO ?_ | refine LdB.g hO ?_ | refine cell_g hO ?_ | refine Rq.go (by omega) ?_ | refine Rng.go (by omega) ?_ | (refine st1.g hO ?_; clear hO; intro h hO; dsimp only [ad, List.set] at hO)))
 refine If.dec (λ e => by omega) λ _ => ?_
 (repeat (with_reducible first | refine NN.go ?_ | refine LdI.g hO ?_ | refine LdSl.g hO ?_ | refine LdP.g hO ?_ | refine LdM.g hO ?_ | refine LdB.g hO ?_ | refine cell_g hO ?_ | refine Rq.go (by omega) ?_ | refine Rng.go (by omega) ?_ | (refine st1.g hO ?_; clear hO; intro h hO; dsimp only [ad, List.set] at hO)))
 refine If.f rfl ?_
 unfold S135_k2
 refine If.f rfl ?_
 (repeat (with_reducible first | refine NN.go ?_ | refine LdI.g hO ?_ | refine LdSl.g hO ?_ | refine LdP.g hO ?_ | refine LdM.g hO ?_ | refine LdB.g hO ?_ | refine cell_g hO ?_ | refine Rq.go (by omega) ?_ | refine Rng.go (by omega) ?_ | (refine st1.g hO ?_; clear hO; intro h hO; dsimp only [ad, List.set] at hO)))
 refine If.t rfl ?_
 exact hK _ (Own.reclose hj t.perm (by (refine hO.sp λ a => ?_; simp only [cnt_app, List.append_eq, cnt_cons, cnt_nil]; omega)))
theorem clRefBeat {p : Option Addr} {x : Cl} {c : Heap} {o : Op} {num rev : Int} (hO : Own G h L) [t : Take L c R] (hq : ClientP p x c)
  (hK : ∀ h', Own G h' L -> K (.int .i64 0) h') : CallF Tryz.prog G 135 #[.pointer p, msgV 6 x.epoch x.id num rev o] K Kp h := by
 refine S135_ok ?_
 unfold S135
 obtain ⟨b, po, pi, pt, pv, q, l, k, ct, q2, l2, k2, cp, pf, co, ci, cf, rfl, h65, hs, hs2, ho, hi, hf, hj⟩ := hq
 (have hO := (hO.perm t.perm).openJ hj; simp only [List.cons_append, List.nil_append] at hO)
 (refine newK.go hO ?_; clear hO; intro r h hO)
 (repeat (with_reducible first | refine NN.go ?_ | refine LdI.g hO ?_ | refine LdSl.g hO ?_ | refine LdP.g hO ?_ | refine LdM.g hO ?_ | refine LdB.g hO ?_ | refine cell_g hO ?_ | refine Rq.go (by omega) ?_ | refine Rng.go (by omega) ?_ | (refine st1.g hO ?_; clear hO; intro h hO; dsimp only [ad, List.set] at hO)))
 refine If.f rfl ?_
 (repeat (with_reducible first | refine NN.go ?_ | refine LdI.g hO ?_ | refine LdSl.g hO ?_ | refine LdP.g hO ?_ | refine LdM.g hO ?_ | refine LdB.g hO ?_ | refine cell_g hO ?_ | refine Rq.go (by omega) ?_ | refine Rng.go (by omega) ?_ | (refine st1.g hO ?_; clear hO; intro h hO; dsimp only [ad, List.set] at hO)))
 refine If.f rfl ?_
 (repeat (with_reducible first | refine NN.go ?_ | refine LdI.g hO ?_ | refine LdSl.g hO ?_ | refine LdP.g hO ?_ | refine LdM.g hO ?_ | refine LdB.g hO ?_ | refine cell_g hO ?_ | refine Rq.go (by omega) ?_ | refine Rng.go (by omega) ?_ | (refine st1.g hO ?_; clear hO; intro h hO; dsimp only [ad, List.set] at hO)))
 unfold S135_k1
 refine If.f rfl ?_
 (repeat (with_reducible first | refine NN.go ?_ | refine LdI.g hO ?_ | refine LdSl.g hO ?_ | refine LdP.g hO ?_ | refine LdM.g hO ?_ | refine LdB.g hO ?_ | refine cell_g hO ?_ | refine Rq.go (by omega) ?_ | refine Rng.go (by omega) ?_ | (refine st1.g hO ?_; clear hO; intro h hO; dsimp only [ad, List.set] at hO)))
 refine If.f (by simp) ?_
 (repeat (with_reducible first | refine NN.go ?_ | refine LdI.g hO ?_ | refine LdSl.g hO ?_ | refine LdP.g hO ?_ | refine LdM.g hO ?_ | refine LdB.g hO ?_ | refine cell_g hO ?_ | refine Rq.go (by omega) ?_ | refine Rng.go (by omega) ?_ | (refine st1.g hO ?_; clear hO; intro h hO; dsimp only [ad, List.set] at hO)))
 refine If.dec (λ e => by omega) λ _ => ?_
 (repeat (with_reducible first | refine NN.go ?_ | refine LdI.g hO ?_ | refine LdSl.g hO ?_ | refine LdP.g hO ?_ | refine LdM.g hO ?_ | refine LdB.g hO ?_ | refine cell_g hO ?_ | refine Rq.go (by omega) ?_ | refine Rng.go (by omega) ?_ | (refine st1.g hO ?_; clear hO; intro h hO; dsimp only [ad, List.set] at hO)))
 refine If.t rfl ?_
 (repeat (with_reducible first | refine NN.go ?_ | refine LdI.g hO ?_ | refine LdSl.g hO ?_ | refine LdP.g hO ?_ | refine LdM.g hO ?_ | refine LdB.g hO ?_ | refine cell_g hO ?_ | refine Rq.go (by omega) ?_ | refine Rng.go (by omega) ?_ | (refine st1.g hO ?_; clear hO; intro h hO; dsimp only [ad, List.set] at hO)))
 unfold S135_k2
 refine If.f (by simp) ?_
 (repeat (with_reducible first | refine NN.go ?_ | refine LdI.g hO ?_ | refine LdSl.g hO ?_ | refine LdP.g hO ?_ | refine LdM.g hO ?_ | refine LdB.g hO ?_ | refine cell_g hO ?_ | refine Rq.go (by omega) ?_ | refine Rng.go (by omega) ?_ | (refine st1.g hO ?_; clear hO; intro h hO; dsimp only [ad, List.set] at hO)))
 refine If.f rfl ?_
 (repeat (with_reducible first | refine NN.go ?_ | refine LdI.g hO ?_ | refine LdSl.g hO ?_ | refine LdP.g hO ?_ | refine LdM.g hO ?_ | refine LdB.g hO ?_ | refine cell_g hO ?_ | refine Rq.go (by omega) ?_ | refine Rng.go (by omega) ?_ | (refine st1.g hO ?_; clear hO; intro h hO; dsimp only [ad, List.set] at hO)))
 refine outSent hO ho ⟨_, rfl, ?_⟩
 (repeat (with_reducible first | refine NN.go ?_ | refine LdI.g hO ?_ | refine LdSl.g hO ?_ | refine LdP.g hO ?_ | refine LdM.g hO ?_ | refine LdB.g hO ?_ | refine cell_g hO ?_ | refine Rq.go (by omega) ?_ | refine Rng.go (by omega) ?_ | (refine st1.g hO ?_; clear hO; intro h hO; dsimp only [ad, List.set] at hO)))
 refine If.f rfl ?_
 (repeat (with_reducible first | refine NN.go ?_ | refine LdI.g hO ?_ | refine LdSl.g hO ?_ | refine LdP.g hO ?_ | refine LdM.g hO ?_ | refine LdB.g hO ?_ | refine cell_g hO ?_ | refine Rq.go (by omega) ?_ | refine Rng.go (by omega) ?_ | (refine st1.g hO ?_; clear hO; intro h hO; dsimp only [ad, List.set] at hO)))
 refine If.t rfl ?_
 exact hK _ (Own.reclose hj t.perm (by (refine hO.sp λ a => ?_; simp only [cnt_app, List.append_eq, cnt_cons, cnt_nil]; omega)))
theorem clRefRec {p : Option Addr} {x : Cl} {c : Heap} {o : Op} (hT : Gt G) (hO : Own G h L) [t : Take L c R] (hq : ClientP p x c) (hacc : x.Acc o) (hcum : 0 <= x.cum /\ x.cum < 4096) (hba : 0 <= x.base /\ x.base <= 100000)
  (hK : ∀ h', Own G h' L -> K (.int .i64 0) h') : CallF Tryz.prog G 135 #[.pointer p, msgV 5 x.epoch x.id (x.cum + 1) (x.base + (x.cum + 1)) o] K Kp h := by
 refine S135_ok ?_
 unfold S135
 have hq' := hq
 obtain ⟨b, po, pi, pt, pv, q, l, k, ct, q2, l2, k2, cp, pf, co, ci, cf, rfl, h65, hs, hs2, ho, hi, hf, hj⟩ := hq'
 (have hO := (hO.perm t.perm).openJ hj; simp only [List.cons_append, List.nil_append] at hO)
 (refine newK.go hO ?_; clear hO; intro r h hO)
 (repeat (with_reducible first | refine NN.go ?_ | refine LdI.g hO ?_ | refine LdSl.g hO ?_ | refine LdP.g hO ?_ | refine LdM.g hO ?_ | refine LdB.g hO ?_ | refine cell_g hO ?_ | refine Rq.go (by omega) ?_ | refine Rng.go (by omega) ?_ | (refine st1.g hO ?_; clear hO; intro h hO; dsimp only [ad, List.set] at hO)))
 refine If.f rfl ?_
 (repeat (with_reducible first | refine NN.go ?_ | refine LdI.g hO ?_ | refine LdSl.g hO ?_ | refine LdP.g hO ?_ | refine LdM.g hO ?_ | refine LdB.g hO ?_ | refine cell_g hO ?_ | refine Rq.go (by omega) ?_ | refine Rng.go (by omega) ?_ | (refine st1.g hO ?_; clear hO; intro h hO; dsimp only [ad, List.set] at hO)))
 refine If.f rfl ?_
 (repeat (with_reducible first | refine NN.go ?_ | refine LdI.g hO ?_ | refine LdSl.g hO ?_ | refine LdP.g hO ?_ | refine LdM.g hO ?_ | refine LdB.g hO ?_ | refine cell_g hO ?_ | refine Rq.go (by omega) ?_ | refine Rng.go (by omega) ?_ | (refine st1.g hO ?_; clear hO; intro h hO; dsimp only [ad, List.set] at hO)))
 unfold S135_k1
 refine If.f rfl ?_
 (repeat (with_reducible first | refine NN.go ?_ | refine LdI.g hO ?_ | refine LdSl.g hO ?_ | refine LdP.g hO ?_ | refine LdM.g hO ?_ | refine LdB.g hO ?_ | refine cell_g hO ?_ | refine Rq.go (by omega) ?_ | refine Rng.go (by omega) ?_ | (refine st1.g hO ?_; clear hO; intro h hO; dsimp only [ad, List.set] at hO)))
 refine If.f (by simp) ?_
 (repeat (with_reducible first | refine NN.go ?_ | refine LdI.g hO ?_ | refine LdSl.g hO ?_ | refine LdP.g hO ?_ | refine LdM.g hO ?_ | refine LdB.g hO ?_ | refine cell_g hO ?_ | refine Rq.go (by omega) ?_ | refine Rng.go (by omega) ?_ | (refine st1.g hO ?_; clear hO; intro h hO; dsimp only [ad, List.set] at hO)))
 refine If.dec (λ e => by omega) λ _ => ?_
 (repeat (with_reducible first | refine NN.go ?_ | refine LdI.g hO ?_ | refine LdSl.g hO ?_ | refine LdP.g hO ?_ | refine LdM.g hO ?_ | refine LdB.g hO ?_ | refine cell_g hO ?_ | refine Rq.go (by omega) ?_ | refine Rng.go (by omega) ?_ | (refine st1.g hO ?_; clear hO; intro h hO; dsimp only [ad, List.set] at hO)))
 refine If.t rfl ?_
 (repeat (with_reducible first | refine NN.go ?_ | refine LdI.g hO ?_ | refine LdSl.g hO ?_ | refine LdP.g hO ?_ | refine LdM.g hO ?_ | refine LdB.g hO ?_ | refine cell_g hO ?_ | refine Rq.go (by omega) ?_ | refine Rng.go (by omega) ?_ | (refine st1.g hO ?_; clear hO; intro h hO; dsimp only [ad, List.set] at hO)))
 unfold S135_k2
 refine If.f (by simp) ?_
 (repeat (with_reducible first | refine NN.go ?_ | refine LdI.g hO ?_ | refine LdSl.g hO ?_ | refine LdP.g hO ?_ | refine LdM.g hO ?_ | refine LdB.g hO ?_ | refine cell_g hO ?_ | refine Rq.go (by omega) ?_ | refine Rng.go (by omega) ?_ | (refine st1.g hO ?_; clear hO; intro h hO; dsimp only [ad, List.set] at hO)))
 refine If.f rfl ?_
 (repeat (with_reducible first | refine NN.go ?_ | refine LdI.g hO ?_ | refine LdSl.g hO ?_ | refine LdP.g hO ?_ | refine LdM.g hO ?_ | refine LdB.g hO ?_ | refine cell_g hO ?_ | refine Rq.go (by omega) ?_ | refine Rng.go (by omega) ?_ | (refine st1.g hO ?_; clear hO; intro h hO; dsimp only [ad, List.set] at hO)))
 refine outSent hO ho ⟨_, rfl, ?_⟩
 (repeat (with_reducible first | refine NN.go ?_ | refine LdI.g hO ?_ | refine LdSl.g hO ?_ | refine LdP.g hO ?_ | refine LdM.g hO ?_ | refine LdB.g hO ?_ | refine cell_g hO ?_ | refine Rq.go (by omega) ?_ | refine Rng.go (by omega) ?_ | (refine st1.g hO ?_; clear hO; intro h hO; dsimp only [ad, List.set] at hO)))
 refine If.f rfl ?_
 (repeat (with_reducible first | refine NN.go ?_ | refine LdI.g hO ?_ | refine LdSl.g hO ?_ | refine LdP.g hO ?_ | refine LdM.g hO ?_ | refine LdB.g hO ?_ | refine cell_g hO ?_ | refine Rq.go (by omega) ?_ | refine Rng.go (by omega) ?_ | (refine st1.g hO ?_; clear hO; intro h hO; dsimp only [ad, List.set] at hO)))
 refine If.f rfl ?_
 (repeat (with_reducible first | refine NN.go ?_ | refine LdI.g hO ?_ | refine LdSl.g hO ?_ | refine LdP.g hO ?_ | refine LdM.g hO ?_ | refine LdB.g hO ?_ | refine cell_g hO ?_ | refine Rq.go (by omega) ?_ | refine Rng.go (by omega) ?_ | (refine st1.g hO ?_; clear hO; intro h hO; dsimp only [ad, List.set] at hO)))
 refine If.f (by simp) ?_
 (repeat (with_reducible first | refine NN.go ?_ | refine LdI.g hO ?_ | refine LdSl.g hO ?_ | refine LdP.g hO ?_ | refine LdM.g hO ?_ | refine LdB.g hO ?_ | refine cell_g hO ?_ | refine Rq.go (by omega) ?_ | refine Rng.go (by omega) ?_ | (refine st1.g hO ?_; clear hO; intro h hO; dsimp only [ad, List.set] at hO)))
 refine inCum hO hi ⟨_, rfl, ?_⟩
 (repeat (with_reducible first | refine NN.go ?_ | refine LdI.g hO ?_ | refine LdSl.g hO ?_ | refine LdP.g hO ?_ | refine LdM.g hO ?_ | refine LdB.g hO ?_ | refine cell_g hO ?_ | refine Rq.go (by omega) ?_ | refine Rng.go (by omega) ?_ | (refine st1.g hO ?_; clear hO; intro h hO; dsimp only [ad, List.set] at hO)))
 refine If.dec (λ e => by omega) λ _ => ?_
 (repeat (with_reducible first | refine NN.go ?_ | refine LdI.g hO ?_ | refine LdSl.g hO ?_ | refine LdP.g hO ?_ | refine LdM.g hO ?_ | refine LdB.g hO ?_ | refine cell_g hO ?_ | refine Rq.go (by omega) ?_ | refine Rng.go (by omega) ?_ | (refine st1.g hO ?_; clear hO; intro h hO; dsimp only [ad, List.set] at hO)))
 refine inCum hO hi ⟨_, rfl, ?_⟩
 (repeat (with_reducible first | refine NN.go ?_ | refine LdI.g hO ?_ | refine LdSl.g hO ?_ | refine LdP.g hO ?_ | refine LdM.g hO ?_ | refine LdB.g hO ?_ | refine cell_g hO ?_ | refine Rq.go (by omega) ?_ | refine Rng.go (by omega) ?_ | (refine st1.g hO ?_; clear hO; intro h hO; dsimp only [ad, List.set] at hO)))
 refine If.t (by simp) ?_
 (repeat (with_reducible first | refine NN.go ?_ | refine LdI.g hO ?_ | refine LdSl.g hO ?_ | refine LdP.g hO ?_ | refine LdM.g hO ?_ | refine LdB.g hO ?_ | refine cell_g hO ?_ | refine Rq.go (by omega) ?_ | refine Rng.go (by omega) ?_ | (refine st1.g hO ?_; clear hO; intro h hO; dsimp only [ad, List.set] at hO)))
 have hO2 : Own G h (c :: R) := Own.closeWith hj (by (refine hO.sp λ a => ?_; simp only [cnt_app, List.append_eq, cnt_cons, cnt_nil]; omega))
 refine clAccepts (o := o) hT hO2 hq hacc λ h hO => ?_
 exact ⟨_, rfl, hK _ (hO.perm t.perm.symm)⟩
def msgL (k : Nat) (ep id num rev : Int) (o : Op) : List Int := [(k : Int), ep, id, 0, 0, num, 0, rev, 0, o.kind, o.pos, o.ch, o.client, o.seq]
structure MsgOk (k : Nat) (ep id num rev : Int) (o : Op) : Prop where
 ep : 1 <= ep /\ ep <= 255
 id : 1 <= id /\ id <= 64
 k : (k = 4 /\ num = 0 /\ rev = 0 /\ o = ⟨0, 0, 0, 0, 0⟩) ∨ (k = 6 /\ num = 0 /\ rev = 0 /\ o = ⟨0, 0, 0, 0, 0⟩) ∨ (k = 5 /\ 1 <= num /\ num <= 4096 /\ 1 <= rev /\ rev <= 4096 /\ FitP 4000 o)
theorem msg_shape {k : Nat} {ep id num rev : Int} {o : Op} (h : MsgOk k ep id num rev o) : ∃ shape, shapesL[k]? = some shape /\ shape.length <= 100 /\ (∀ f ∈ shape, 0 <= f /\ f < 14) /\
  (∀ f : Nat, 0 <= (msgL k ep id num rev o).getD f 0 /\ (msgL k ep id num rev o).getD f 0 < 65536) /\ (∀ f : Nat, sizeL.getD f 0 = 1 -> (msgL k ep id num rev o).getD f 0 < 256) /\ (∀ f : Nat, 1 <= f -> f < 14 -> okV (msgL k ep id num rev o) shape 0 f = true) /\
  (∀ j x, shape[j]? = some x -> mayB x (pv (msgL k ep id num rev o) shape (j + 1)) 0 = true) /\ pv (msgL k ep id num rev o) shape shape.length = msgL k ep id num rev o /\ longS shape = ((layB (msgL k ep id num rev o) shape).length : Int) /\ (layB (msgL k ep id num rev o) shape).length <= 40 := by
 obtain ⟨he, hi, hk⟩ := h
 have small : ∀ (l : List Int), l.length = 14 -> (∀ i, i < 14 -> 0 <= l.getD i 0 /\ l.getD i 0 < 65536) -> ∀ f : Nat, 0 <= l.getD f 0 /\ l.getD f 0 < 65536 := λ l hl h f => by
  rcases Nat.lt_or_ge f 14 with h1 | h1
  ·exact h f h1
  ·rw [List.getD_eq_getElem?_getD, List.getElem?_eq_none (by omega)]; decide
 have c14 : ∀ {P : Nat -> Prop}, P 0 -> P 1 -> P 2 -> P 3 -> P 4 -> P 5 -> P 6 -> P 7 -> P 8 -> P 9 -> P 10 -> P 11 -> P 12 -> P 13 -> ∀ i, i < 14 -> P i := by
  intro P h0 h1 h2 h3 h4 h5 h6 h7 h8 h9 h10 h11 h12 h13 i hi
  have : i = 0 ∨ i = 1 ∨ i = 2 ∨ i = 3 ∨ i = 4 ∨ i = 5 ∨ i = 6 ∨ i = 7 ∨ i = 8 ∨ i = 9 ∨ i = 10 ∨ i = 11 ∨ i = 12 ∨ i = 13 := by omega
  rcases this with h | h | h | h | h | h | h | h | h | h | h | h | h | h <;> subst h <;> assumption
 have s1 : ∀ (l : List Int), l.length = 14 -> (∀ i, i < 14 -> sizeL.getD i 0 = 1 -> l.getD i 0 < 256) -> ∀ f : Nat, sizeL.getD f 0 = 1 -> l.getD f 0 < 256 := λ l hl h f hf => by
  rcases Nat.lt_or_ge f 14 with h1 | h1
  ·exact h f h1 hf
  ·rw [List.getD_eq_getElem?_getD, List.getElem?_eq_none (by omega)]; decide
 rcases hk with ⟨rfl, rfl, rfl, rfl⟩ | ⟨rfl, rfl, rfl, rfl⟩ | ⟨rfl, h1, h2, h3, h4, hf⟩
 ·refine ⟨[1, 2], rfl, by decide, by decide, small _ rfl (c14 ?_ ?_ ?_ ?_ ?_ ?_ ?_ ?_ ?_ ?_ ?_ ?_ ?_ ?_), s1 _ rfl (c14 ?_ ?_ ?_ ?_ ?_ ?_ ?_ ?_ ?_ ?_ ?_ ?_ ?_ ?_), λ f hf1 hf2 => c14 (P := λ f => 1 <= f -> okV _ [1, 2] 0 f = true) ?_ ?_ ?_ ?_ ?_ ?_ ?_ ?_ ?_ ?_ ?_ ?_ ?_ ?_ f hf2 hf1, ?_, rfl, rfl, Nat.le_of_ble_eq_true rfl⟩
  iterate 14 (simp [msgL]; try omega)
  iterate 14 (simp [msgL, sizeL]; try omega)
  iterate 14 (simp [okV, mayB, bnd, msgL]; try omega)
  intro j x hx
  have hj := (List.getElem?_eq_some_iff.1 hx).1
  simp only [List.length_cons, List.length_nil] at hj
  have hjj : j = 0 ∨ j = 1 := by omega
  rcases hjj with rfl | rfl <;> simp only [List.getElem?_cons_zero, List.getElem?_cons_succ, Option.some.injEq] at hx <;> subst hx <;> simp [mayB, bnd, pv, msgL] <;> omega
 ·refine ⟨[1, 2, 6], rfl, by decide, by decide, small _ rfl (c14 ?_ ?_ ?_ ?_ ?_ ?_ ?_ ?_ ?_ ?_ ?_ ?_ ?_ ?_), s1 _ rfl (c14 ?_ ?_ ?_ ?_ ?_ ?_ ?_ ?_ ?_ ?_ ?_ ?_ ?_ ?_), λ f hf1 hf2 => c14 (P := λ f => 1 <= f -> okV _ [1, 2, 6] 0 f = true) ?_ ?_ ?_ ?_ ?_ ?_ ?_ ?_ ?_ ?_ ?_ ?_ ?_ ?_ f hf2 hf1, ?_, rfl, rfl, Nat.le_of_ble_eq_true rfl⟩
  iterate 14 (simp [msgL]; try omega)
  iterate 14 (simp [msgL, sizeL]; try omega)
  iterate 14 (simp [okV, mayB, bnd, msgL]; try omega)
  intro j x hx
  have hj := (List.getElem?_eq_some_iff.1 hx).1
  simp only [List.length_cons, List.length_nil] at hj
  have hjj : j = 0 ∨ j = 1 ∨ j = 2 := by omega
  rcases hjj with rfl | rfl | rfl <;> simp only [List.getElem?_cons_zero, List.getElem?_cons_succ, Option.some.injEq] at hx <;> subst hx <;> simp [mayB, bnd, pv, msgL] <;> omega
 ·obtain ⟨ok, opp, och, ocl, osq⟩ := o
  have hc := hf.c
  have hs := hf.s
  have hkk := hf.k
  simp only at hc hs hkk
  rcases hkk with ⟨rfl, rfl, rfl⟩ | ⟨rfl, k2, k3, k4, k5⟩ | ⟨rfl, rfl, k4, k5⟩
  ·refine ⟨[1, 2, 5, 6, 7, 9, 10, 11, 12, 13], rfl, by decide, by decide, small _ rfl (c14 ?_ ?_ ?_ ?_ ?_ ?_ ?_ ?_ ?_ ?_ ?_ ?_ ?_ ?_), s1 _ rfl (c14 ?_ ?_ ?_ ?_ ?_ ?_ ?_ ?_ ?_ ?_ ?_ ?_ ?_ ?_), λ f hf1 hf2 => c14 (P := λ f => 1 <= f -> okV _ [1, 2, 5, 6, 7, 9, 10, 11, 12, 13] 0 f = true) ?_ ?_ ?_ ?_ ?_ ?_ ?_ ?_ ?_ ?_ ?_ ?_ ?_ ?_ f hf2 hf1, ?_, rfl, rfl, Nat.le_of_ble_eq_true rfl⟩
   iterate 14 (simp [msgL]; try omega)
   iterate 14 (simp [msgL, sizeL]; try omega)
   iterate 14 (simp [okV, mayB, bnd, msgL]; try omega)
   intro j x hx
   have hj := (List.getElem?_eq_some_iff.1 hx).1
   simp only [List.length_cons, List.length_nil] at hj
   have hjj : j = 0 ∨ j = 1 ∨ j = 2 ∨ j = 3 ∨ j = 4 ∨ j = 5 ∨ j = 6 ∨ j = 7 ∨ j = 8 ∨ j = 9 := by omega
   rcases hjj with rfl | rfl | rfl | rfl | rfl | rfl | rfl | rfl | rfl | rfl <;> simp only [List.getElem?_cons_zero, List.getElem?_cons_succ, Option.some.injEq] at hx <;> subst hx <;> simp [mayB, bnd, pv, msgL] <;> omega
  ·refine ⟨[1, 2, 5, 6, 7, 9, 10, 11, 12, 13], rfl, by decide, by decide, small _ rfl (c14 ?_ ?_ ?_ ?_ ?_ ?_ ?_ ?_ ?_ ?_ ?_ ?_ ?_ ?_), s1 _ rfl (c14 ?_ ?_ ?_ ?_ ?_ ?_ ?_ ?_ ?_ ?_ ?_ ?_ ?_ ?_), λ f hf1 hf2 => c14 (P := λ f => 1 <= f -> okV _ [1, 2, 5, 6, 7, 9, 10, 11, 12, 13] 0 f = true) ?_ ?_ ?_ ?_ ?_ ?_ ?_ ?_ ?_ ?_ ?_ ?_ ?_ ?_ f hf2 hf1, ?_, rfl, rfl, Nat.le_of_ble_eq_true rfl⟩
   iterate 14 (simp [msgL]; try omega)
   iterate 14 (simp [msgL, sizeL]; try omega)
   iterate 14 (simp [okV, mayB, bnd, msgL]; try omega)
   intro j x hx
   have hj := (List.getElem?_eq_some_iff.1 hx).1
   simp only [List.length_cons, List.length_nil] at hj
   have hjj : j = 0 ∨ j = 1 ∨ j = 2 ∨ j = 3 ∨ j = 4 ∨ j = 5 ∨ j = 6 ∨ j = 7 ∨ j = 8 ∨ j = 9 := by omega
   rcases hjj with rfl | rfl | rfl | rfl | rfl | rfl | rfl | rfl | rfl | rfl <;> simp only [List.getElem?_cons_zero, List.getElem?_cons_succ, Option.some.injEq] at hx <;> subst hx <;> simp [mayB, bnd, pv, msgL] <;> omega
  ·refine ⟨[1, 2, 5, 6, 7, 9, 10, 11, 12, 13], rfl, by decide, by decide, small _ rfl (c14 ?_ ?_ ?_ ?_ ?_ ?_ ?_ ?_ ?_ ?_ ?_ ?_ ?_ ?_), s1 _ rfl (c14 ?_ ?_ ?_ ?_ ?_ ?_ ?_ ?_ ?_ ?_ ?_ ?_ ?_ ?_), λ f hf1 hf2 => c14 (P := λ f => 1 <= f -> okV _ [1, 2, 5, 6, 7, 9, 10, 11, 12, 13] 0 f = true) ?_ ?_ ?_ ?_ ?_ ?_ ?_ ?_ ?_ ?_ ?_ ?_ ?_ ?_ f hf2 hf1, ?_, rfl, rfl, Nat.le_of_ble_eq_true rfl⟩
   iterate 14 (simp [msgL]; try omega)
   iterate 14 (simp [msgL, sizeL]; try omega)
   iterate 14 (simp [okV, mayB, bnd, msgL]; try omega)
   intro j x hx
   have hj := (List.getElem?_eq_some_iff.1 hx).1
   simp only [List.length_cons, List.length_nil] at hj
   have hjj : j = 0 ∨ j = 1 ∨ j = 2 ∨ j = 3 ∨ j = 4 ∨ j = 5 ∨ j = 6 ∨ j = 7 ∨ j = 8 ∨ j = 9 := by omega
   rcases hjj with rfl | rfl | rfl | rfl | rfl | rfl | rfl | rfl | rfl | rfl <;> simp only [List.getElem?_cons_zero, List.getElem?_cons_succ, Option.some.injEq] at hx <;> subst hx <;> simp [mayB, bnd, pv, msgL] <;> omega
end Go.Sl
