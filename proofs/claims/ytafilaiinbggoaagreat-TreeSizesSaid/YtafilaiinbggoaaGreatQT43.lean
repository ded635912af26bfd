import Derived.Test.YtafilaiinbggoaaGreatQT42
import Derived.Test.YtafilaiinbggoaaGreatTLays
import Derived.Shelf.Slices.In.SortNone
import Derived.Shelf.Slices.Turned
import Derived.Lib.OwnBridge
import Derived.Lib.RowBridge
import Derived.Sort.OwnSortedInts
namespace Go.Proofs.YtafilaiinbggoaaGreat
open Go.RowKit Go.Maps Go.WideMaps Go.Sort Go.Shelf
abbrev sortZ (zs : List Int) : List Int := zs.mergeSort fun x y => decide (x <= y)
theorem sortZ_perm (zs : List Int) : (sortZ zs).Perm zs := List.mergeSort_perm zs _
theorem sortZ_len (zs : List Int) : (sortZ zs).length = zs.length := (sortZ_perm zs).length_eq
theorem owns_ints {T : TypeId} {B p : Nat} {w : World} {sl : Value} {xs : List Int} {cs : List Value} (h : OwnS 1 RI T B w sl p xs cs) : cs = xs.map (Value.int .i64) := by
 have hc : cs.length = xs.length := by have := h.row.1; omega
 apply List.ext_getElem?
 intro i
 by_cases hi : i < xs.length
 ·obtain ⟨d, h1, h2, h3⟩ := h.row.2 i xs[i] (List.getElem?_eq_getElem hi)
  have h3 : d = [.int .i64 xs[i]] := h3
  have := h2 0 (.int .i64 xs[i]) (by rw [h3]; rfl)
  rw [Nat.mul_one, Nat.add_zero] at this
  rw [this, List.getElem?_map, List.getElem?_eq_getElem hi]; rfl
 ·rw [List.getElem?_eq_none (by omega), List.getElem?_eq_none (by simp; omega)]
theorem ints_row (c : CF) (l : List Int) : GRow 1 RI c l (l.map (Value.int .i64)) := by
 refine ⟨by simp, fun i x hx => ⟨[.int .i64 x], rfl, fun j u hu => ?_, rfl⟩⟩
 match j, hu with
 | 0, hu =>
  cases hu
  rw [Nat.mul_one, Nat.add_zero, List.getElem?_map, hx]
  rfl
theorem below_grownI {B g : Nat} {w w' : World} (h : w.grownBy w' (some g)) (hg : B <= g) (hB : B <= w.heap.size) : Below B w w' := by
 obtain ⟨h1, h2, h3, h4, h5⟩ := h
 exact ⟨h1, h2, h3, h4, fun k hk => h5 k (by omega) (fun e => by injection e with e; omega)⟩
theorem sort_ints (T : TypeId) (B p : Nat) (sl : Value) (zs : List Int) (cs : List Value) (w : World) (h : OwnS 1 RI T B w sl p zs cs) (hp : p <= 400000000) :
  Calls Tryz.prog (Tryz.laysSortI_ren.f 189) #[sl] w fun e w' => e = .returned (.tuple #[]) /\ Below B w w' /\ OwnS 1 RI T B w' sl p (sortZ zs) ((sortZ zs).map (Value.int .i64)) := by
 have e1 := owns_ints h
 have hlen := h.len
 rcases id h.own.2 with ⟨hv, hn⟩ | ⟨g, cap, cur, hv, hb, hg, hle, hcap, hs, ht⟩
 ·obtain rfl : zs = [] := List.length_eq_zero_iff.1 (by omega)
  subst hv; subst hn
  refine (Any.slices_Sort_int_none Tryz.laysSortI none 0 w).mono ?_
  rintro e w' ⟨rfl, rfl⟩
  refine ⟨rfl, Below.refl _ _, ?_⟩
  have e0 : sortZ [] = [] := by simp [sortZ]
  rw [e0]
  exact OwnS.start 1 _ _ h.le
 ·subst hv
  rw [e1, Nat.mul_one] at ht
  have hH : Holds (Value.int .i64) w g 0 zs.toArray := holds_of_blockI hg (by rw [hlen]; exact ht)
  have hlt : g < w.heap.size := heap_lt hg
  have hc := Any.slices_Sort_int Tryz.laysSortI g 0 cap zs w hH hlt (by omega)
  rw [hlen] at hc
  refine hc.mono ?_
  rintro e w' ⟨rfl, n, os, rfl⟩
  have hbl := below_grownI (grownBy_sortedI (w := w) (g := g) (n := n) (os := os) (sortZ zs).toArray) hb h.le
  refine ⟨rfl, hbl, ?_⟩
  have hr := ownsRow_sortedI (n := n) (os := os) (ss := zs) (ts := sortZ zs) (sortZ_len zs) hb hg (by rw [hlen]; exact hle) hcap hs
  rw [hlen] at hr
  exact ⟨hr, by rw [sortZ_len, hlen], ints_row _ _, Nat.le_trans h.le hbl.size⟩
set_option maxHeartbeats 1000000 in
theorem coll_none {tb sb : Nat} {deep : Int} {w : World} : Calls Tryz.prog 63 #[.pointer (some ⟨tb, 0, none⟩), .int .i64 (-1), .int .i64 deep, .map (some sb)] w fun e w' => e = .returned (.int .i64 0) /\ w' = w := by
 go_enter Tryz.func63, Tryz.ntmps63
 go_wp2
 go_ret
 exact ⟨rfl, rfl⟩
def PagesPost (Q : PQ) (R : Int -> Option Bts) (H : HS) (S : PS) (p tb : Nat) (root : Int) (o : Top) (w : World) (e : Ending) (w' : World) : Prop :=
 ∃ (sv : Value) (l : List Int) (cs : List Value) (H' : HS) (S' : PS) (p' : Nat), e = .returned (.tuple #[sv, .int .i64 0]) /\ l.Perm ((pagesO o).map Int.ofNat) /\ OwnS 1 RI 3 w.heap.size w' sv l.length l cs /\ (∀ g, sv.ownBlock = some g -> ¬ H'.all g) /\ PG Q R H' S' p' w' /\ SameP S S' /\ TB H' w' tb Q.pb root /\ TurnS H.all w H'.all w' /\ p' <= p + 4 * (pagesO o).length
structure KG (D : DataW Value) (f : Int -> Option Value) (sb r B : Nat) (w0 wr : World) (sl : Value) (xs : List Int) (left : Lit -> Bool) (cnt : Nat) : Prop where
 rng : wr.ranges Tryz.prog 3 heldI sb r (Maps.size D) D left cnt
 row : ∃ cs, OwnS 1 RI 3 B wr sl xs.length xs cs
 nd : xs.Nodup
 here : ∀ x ∈ xs, (f x).isSome = true /\ left (.int .i64 x) = false
 all : ∀ x, (f x).isSome = true -> left (.int .i64 x) = false -> x ∈ xs
 bel : Below w0.heap.size w0 wr
theorem TopIn.nd {S : PS} {o : Top} {root : Int} (h : TopIn S o root) : (pagesO o).Nodup := by
 match o, h with
 | none, _ => exact List.nodup_nil
 | some ⟨g, t⟩, h => exact h.2.nd
theorem map_start (w : World) : MapI w.heap.size (seenF []) (w.alloc (.map #[] 0)) := by
 have e : seenF [] = fun _ => none := by
  funext k
  unfold seenF
  rw [if_neg (by simp)]
 rw [e]
 exact MapI.start w
theorem KG.next {D : DataW Value} {f : Int -> Option Value} {sb r B cnt cnt' : Nat} {w0 wr w4 w5 : World} {sl sl' : Value} {xs : List Int} {left : Lit -> Bool} {x : Int} {cs : List Value} (h : KG D f sb r B w0 wr sl xs left cnt) (hx : (f x).isSome = true) (hl : left (.int .i64 x) = true) (hr : w4.ranges Tryz.prog 3 heldI sb r (Maps.size D) D (fun z => left z && !z.sameKey (.int .i64 x)) cnt') (hg : wr.grownBy w4 (some r)) (hrn : w0.heap.size <= r) (hrB : r < B) (hsB : sb < B) (ho : OwnS 1 RI 3 B w5 sl' (xs.length + 1) (xs ++ [x]) cs) (hg5 : Grew w4 w5 sl sl') (hB0 : w0.heap.size <= B) : KG D f sb r B w0 w5 sl' (xs ++ [x]) (fun z => left z && !z.sameKey (.int .i64 x)) cnt' := by
 obtain ⟨cs0, ho0⟩ := h.row
 have hne : ∀ q, q < B -> some q ≠ sl.ownBlock := fun q hq e => by have := (ho0.low q e.symm).1; omega
 refine ⟨hr.kept hg5.by_ (hne sb hsB) (hne r hrB), ⟨cs, by rw [List.length_append]; exact ho⟩, ?_, fun y hy => ?_, fun y hy hly => ?_, ?_⟩
 ·refine List.nodup_append.2 ⟨h.nd, List.pairwise_singleton _ _, fun a ha b hb e => ?_⟩
  obtain rfl := List.mem_singleton.1 hb
  have := (h.here a ha).2
  rw [e, hl] at this
  cases this
 ·rcases List.mem_append.1 hy with hy | hy
  ·obtain ⟨h1, h2⟩ := h.here y hy
   exact ⟨h1, by simp [h2]⟩
  ·obtain rfl := List.mem_singleton.1 hy
   exact ⟨hx, by simp [Lit.sameKey]⟩
 ·by_cases e : y = x
  ·exact List.mem_append_right _ (List.mem_singleton.2 e)
  ·have ne : (Lit.int .i64 y).sameKey (.int .i64 x) = false := sameKey_ne (by simpa using e)
   simp only [ne, Bool.not_false, Bool.and_true] at hly
   exact List.mem_append_left _ (h.all y hy hly)
 ·have h1 : Below w0.heap.size w0 w4 := h.bel.grown hg h.bel.size fun q e => by cases e; exact hrn
  exact h1.grown hg5.by_ h1.size fun q hq => Nat.le_trans hB0 (ho0.low q hq).1
set_option maxHeartbeats 8000000 in
set_option maxRecDepth 100000 in
theorem tree_pages {Q : PQ} {R : Int -> Option Bts} {H : HS} {S : PS} {p tb : Nat} {root : Int} {o : Top} {w : World} (h : PG Q R H S p w) (ht : TB H w tb Q.pb root) (ho : TopIn S o root) (hh : heightO o <= 19) (hn : (pagesO o).length <= 900) (hp : p + 4 * (pagesO o).length <= 999990000) :
  Calls Tryz.prog 36 #[.pointer (some ⟨tb, 0, none⟩)] w (PagesPost Q R H S p tb root o w) := by
 obtain ⟨x0, x1⟩ := ht.cells
 obtain ⟨sb, hsb⟩ : ∃ sb, sb = w.heap.size := ⟨_, rfl⟩
 obtain ⟨w1, hw1⟩ : ∃ w1, w1 = w.alloc (.map #[] 0) := ⟨_, rfl⟩
 have hb1 : Below w.heap.size w w1 := by rw [hw1]; exact (Below.refl _ w).alloc (Nat.le_refl _) _
 have hM1 : MapI sb (seenF []) w1 := by rw [hw1, hsb]; exact map_start w
 have hsH : ¬ H.all sb := fun e => by have := h.lt sb e; omega
 have hnd := ho.nd
 obtain ⟨ps, hps⟩ : ∃ ps, ps = pagesO o := ⟨_, rfl⟩
 have hC : Calls Tryz.prog 63 #[.pointer (some ⟨tb, 0, none⟩), .int .i64 root, .int .i64 1, .map (some sb)] w1 (CollPost Q R H S p sb [] (pagesO o) w1) := by
  match o, ho, hh, hn, hp with
  | none, ho, _, _, _ =>
   obtain rfl : root = -1 := ho
   refine coll_none.mono ?_
   rintro e w' ⟨rfl, rfl⟩
   exact ⟨H, S, p, rfl, h.below hb1, SameP.refl S, hM1, hsH, TurnS.refl _ _, by omega⟩
  | some ⟨g, t⟩, ho, hh, hn, hp =>
   have hg : g + 1 <= 19 := hh
   have hn2 : (pagesT g t).length <= 900 := hn
   rw [ho.1]
   exact tree_collect g ho.2 (by omega) (Nat.le_refl _) H S p root [] w1 (h.below hb1) (ht.below hb1) (SameP.refl S) hsH hM1 (fun q _ e => by cases e) (by simp only [List.length_nil]; omega) hp
 rw [<- hps] at hC hnd hn
 have HC := HoldT.mk hC
 have HW := HoldT.mk (And.intro hsb hw1)
 have HH := HoldT.mk (And.intro h (And.intro ht (And.intro hb1 (And.intro hsH (And.intro hnd hps)))))
 have hmm := @run_makeMap Tryz.prog
 have y0 := cle_below hb1 _ _ _ (show cf w tb 0 = _ from x0)
 have y1 := cle_below hb1 _ _ _ (show cf w tb 1 = _ from x1)
 unfold cf at y0 y1
 clear h ht ho hh hp hsb hw1 hb1 hM1 hsH hnd hps hC x0 x1
 go_enter Tryz.func36, Tryz.ntmps36
 go_upto_region 4 with (fail)
 rw [<- HW.out.1, <- HW.out.2]
 go_wp2_with fail
 refine HC.out.mono ?_
 rintro e w2 ⟨H2, S2, p2, rfl, hG2, hS2, hM2, hs2, hT2, hp2⟩
 rw [List.nil_append] at hM2
 obtain ⟨D, hown, hD⟩ := hM2
 have hTT : TurnS H.all w H2.all w2 := by
  have hb1 := HH.out.2.2.1
  refine ⟨hT2.os.trans hb1.os, hT2.tape.trans hb1.tape, hT2.output.trans hb1.output, Nat.le_trans hb1.size hT2.size, fun b hb hnb => ?_⟩
  obtain ⟨c1, c2⟩ := hT2.out b (Nat.lt_of_lt_of_le hb hb1.size) (fun e => e.elim hnb (fun e => by have := HW.out.1; omega))
  exact ⟨c1.trans (hb1.block b hb), fun e => c2 (.inl e)⟩
 have hTB2 : TB H2 w2 tb Q.pb root := HH.out.2.1.turn hTT
 have HD := HoldT.mk hD
 have H2' := HoldT.mk (And.intro hG2 (And.intro hS2 (And.intro hTB2 (And.intro hTT (And.intro hp2 hs2)))))
 have hsb2 := hown.lt
 clear hG2 hS2 hD hs2 hT2 hp2 hTT hTB2 y0 y1 HC
 go_wp2_with (at_range; refine wpList_range_own _ rfl _ 144 rfl 3 4 mapKeyedI Tryz.underlying144 heldI sb (Maps.size D) D rfl hown ?_; intro w3 hrg0 hg3 hs3)
 go_frame
 obtain ⟨r, hr⟩ : ∃ r, r = w2.heap.size := ⟨_, rfl⟩
 rw [<- hr] at hrg0 |-
 have HK0 := HoldT.mk (show KG D (seenF ps) sb r w3.heap.size w2 w3 (.slice none 0 0) [] (Maps.has D) (Maps.size D) from
  ⟨hrg0, ⟨[], OwnS.start 1 _ _ (Nat.le_refl _)⟩, List.nodup_nil, fun x hx => (by cases hx), fun x hx hl => (by rw [HD.out.has x, hx] at hl; cases hl), ⟨hg3.os, hg3.tape, hg3.output, hg3.size, fun q hq => hg3.block q hq (by simp)⟩⟩)
 have HR := HoldT.mk (show r < w3.heap.size /\ sb < w3.heap.size /\ w2.heap.size <= r /\ w2.heap.size <= w3.heap.size by omega)
 clear hrg0 hg3 hs3 hsb2 hown hr
 go_loopw [6, 7] (fun s6 s7 wr => ∃ (xs : List Int) (left : Lit -> Bool) (cnt : Nat), HoldT (KG D (seenF ps) sb r w3.heap.size w2 wr s6 xs left cnt)) (fun _ _ wr => wr.rangeLeft sb r)
 case atStart => exact ⟨[], _, _, HK0⟩
 case round =>
  obtain ⟨xs, left, cnt, HK⟩ := hrel
  obtain ⟨cs, hor⟩ := HK.out.row
  obtain ⟨xa, xc, rfl⟩ := hor.shape
  have hxl : xs.length <= 900 := by
   have h1 := nodup_le HK.out.nd (m := ps.map Int.ofNat) fun x hx => seenF_some (HK.out.here x hx).1
   rw [List.length_map] at h1
   omega
  obtain ⟨xn, hxn⟩ : ∃ n, n = xs.length := ⟨_, rfl⟩
  rw [<- hxn] at hor hxl HK |-
  have HO := HoldT.mk (And.intro hor hxn)
  have hrg := HK.out.rng
  clear hor hxn HK0
  go_wp2_with (at_next; refine wpList_next_ranges _ rfl _ rfl 3 mapKeyedI heldI (Value.int .i64) id (fun key kl hk => by obtain ⟨x, hx, _⟩ := Maps.keyOf_int_inv Tryz.underlying3 hk; exact ⟨x, hx⟩) (fun v y _ => ⟨v, rfl⟩) sb r (Maps.size D) D left cnt rfl hrg ?_ ?_)
  ·intro _ hl0
   have hpm : xs.Perm (ps.map Int.ofNat) := by
    refine (List.perm_ext_iff_of_nodup HK.out.nd (List.Pairwise.map _ (fun a b hab e => hab (Int.ofNat.inj e)) HH.out.2.2.2.2.1)).2 fun x => ?_
    constructor
    ·intro hx
     exact seenF_some (HK.out.here x hx).1
    ·intro hx
     exact HK.out.all x (seenF_iff.1 hx) (hl0 _)
   have HSO := HoldT.mk (sort_ints 3 w3.heap.size xn (.slice xa xn xc) xs cs wr HO.out.1 (by omega))
   have HPM := HoldT.mk hpm
   clear hl0 hpm hrg
   go_wp2_with fail
   refine HSO.out.mono ?_
   rintro e w7 ⟨rfl, hb7, ho7⟩
   have hT7 : Below w2.heap.size w2 w7 := HK.out.bel.trans (hb7.mono HR.out.2.2.2)
   have HE := HoldT.mk (show PagesPost Q R H S p tb root o w (.returned (.tuple #[.slice xa xn xc, .int .i64 0])) w7 by
    have hz : (sortZ xs).length = xn := by rw [sortZ_len, <- HO.out.2]
    refine ⟨_, sortZ xs, (sortZ xs).map (Value.int .i64), H2, S2, p2, rfl, ?_, ?_, fun g hg e => ?_, H2'.out.1.below hT7, H2'.out.2.1, H2'.out.2.2.1.below hT7, H2'.out.2.2.2.1.then hT7, ?_⟩
    ·rw [<- HH.out.2.2.2.2.2]
     exact (sortZ_perm xs).trans HPM.out
    ·rw [hz]
     exact own_base ho7 (Nat.le_trans H2'.out.2.2.2.1.size HR.out.2.2.2)
    ·have h1 := (ho7.low g hg).1
     have h2 := H2'.out.1.lt g e
     have h3 := HR.out
     omega
    ·rw [<- HH.out.2.2.2.2.2]
     exact H2'.out.2.2.2.2.1)
   clear hb7 ho7 hT7 HSO
   go_wp2_with fail
   refine bodyPost_ret (v := .tuple #[.slice xa xn xc, .int .i64 0]) (by simp [results, Tryz.results36, go_sem]) rfl ?_
   exact HE.out
  ·intro x c kl y y2 w4 cnt1 hkey hlx hv hat hrg1 hlt hg1 hs1 hen
   obtain ⟨x', ex, rfl, hwx⟩ := Maps.keyOf_int_inv Tryz.underlying3 hkey
   obtain rfl : x = x' := by cases ex; rfl
   have hsx : (seenF ps x).isSome = true := by rw [<- HD.out.has x]; exact has_true_of_atKey hat
   have ho4 : OwnS 1 RI 3 w3.heap.size w4 (.slice xa xn xc) xn xs cs := own_keep (fun _ _ _ _ h => h) HO.out.1 hg1 (fun g hg e => by have h1 := (HO.out.1.low g hg).1; have h2 := HR.out.1; have h3 := Option.some.inj e; omega)
   have HX := HoldT.mk (And.intro hsx (And.intro hlx (And.intro hrg1 (And.intro hg1 (And.intro ho4 hlt)))))
   clear hkey hlx hv hat hrg1 hlt hg1 hs1 hwx hsx ho4 ex hrg
   go_wp2_with (at_builtin; refine push_new RI_mono rfl _ _ rfl infoI1 Tryz.underlying91 rfl (by decide) w3.heap.size _ _ xn _ _ HX.out.2.2.2.2.1 rfl _ [.int .i64 x] rfl rfl (by simp [Value.oneCell']) x rfl _ rfl rfl (by omega) (by decide) ?_)
   intro sl5 w5 ho5 hg5
   obtain ⟨a5, c5, rfl⟩ := ho5.shape
   have HE := HoldT.mk (HK.out.next HX.out.1 HX.out.2.1 HX.out.2.2.1 HX.out.2.2.2.1 HR.out.2.2.1 HR.out.1 HR.out.2.1 (by rw [<- HO.out.2]; exact ho5) hg5 HR.out.2.2.2)
   clear ho5 hg5 hen
   go_wp2_with fail
   exact ⟨⟨_, _, _, HE⟩, by rw [HE.out.rng.left_eq, HK.out.rng.left_eq]; exact HX.out.2.2.2.2.2⟩
end Go.Proofs.YtafilaiinbggoaaGreat
