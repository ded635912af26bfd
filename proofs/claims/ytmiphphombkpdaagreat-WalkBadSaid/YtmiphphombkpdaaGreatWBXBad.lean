/- Walks, walked: Up and Down where nothing is read, where a page is none, where there are no pages. -/
import Derived.Test.YtmiphphombkpdaaGreatWB48
import Derived.Test.YtmiphphombkpdaaGreatWB49
namespace Go.Proofs.YtmiphphombkpdaaGreat
open Go.RowKit Go.Maps
set_option maxHeartbeats 4000000 in
set_option maxRecDepth 100000 in
theorem list_lost {w : World} {sb : Nat} {fv tv b : Value} {root most : Int} (hx : w.heap[sb]? = some (.cells #[.pointer none, fv, tv, b, .nilFunc] 77 (0, 0))) :
  Calls Tryz.prog 33 #[.pointer (some ⟨sb, 0, none⟩), .int .i64 root, .int .i64 most] w (fun e w' => e = .returned (.tuple #[.slice none 0 0, .int .i64 7]) /\ Below w.heap.size w w') := by
 obtain ⟨mb, hmb⟩ : ∃ q, q = w.heap.size := ⟨_, rfl⟩
 obtain ⟨w1, hw1⟩ : ∃ w1, w1 = w.alloc (.cells #[.int .i64 most] 3) := ⟨_, rfl⟩
 have hb1 : Below w.heap.size w w1 := by rw [hw1]; exact (Below.refl _ w).alloc (Nat.le_refl _) _
 obtain ⟨ob, hob⟩ : ∃ q, q = w1.heap.size := ⟨_, rfl⟩
 obtain ⟨w2, hw2⟩ : ∃ w2, w2 = w1.alloc (.cells #[.slice none 0 0] 33) := ⟨_, rfl⟩
 have hb2 : Below w1.heap.size w1 w2 := by rw [hw2]; exact (Below.refl _ w1).alloc (Nat.le_refl _) _
 have hr2 : mb + 1 = ob := by rw [hob, hw1, hmb]; simp
 have hx2 := kept (kept hx hb1) hb2
 have y0 : w2.cell? ⟨sb, 0, none⟩ = some (.pointer none) := by simp [World.cell?, hx2]
 have HW := HoldT.mk (And.intro hmb (And.intro hw1 (And.intro hr2 hw2)))
 have HB := HoldT.mk (hb1.trans (hb2.mono hb1.size))
 clear hx hx2 hw1 hb1 hob hw2 hb2 hmb hr2
 go_enter Tryz.func33, Tryz.ntmps33
 go_upto_region 2 with (fail)
 rw [<- HW.out.1, <- HW.out.2.1, HW.out.2.2.1, <- HW.out.2.2.2]
 go_wp2_with fail
 exact bodyPost_ret (v := .tuple #[.slice none 0 0, .int .i64 7]) (by simp [results, Tryz.results33, go_sem]) rfl ⟨rfl, HB.out⟩
set_option maxHeartbeats 4000000 in
set_option maxRecDepth 100000 in
theorem walk_Down_lost {w : World} {fa ta : Option Addr} {fl fc tl tc : Nat} {root most : Int} :
  Calls Tryz.prog 15 #[.pointer none, .int .i64 root, .slice fa fl fc, .slice ta tl tc, .int .i64 most] w (fun e w' => e = .returned (.tuple #[.slice none 0 0, .int .i64 7]) /\ Below w.heap.size w w') := by
 obtain ⟨sb, hsb⟩ : ∃ q, q = w.heap.size := ⟨_, rfl⟩
 obtain ⟨w1, hw1⟩ : ∃ w1, w1 = w.alloc (.cells #[.pointer none, .slice fa fl fc, .slice ta tl tc, .bool true, .nilFunc] 77) := ⟨_, rfl⟩
 have hb1 : Below w.heap.size w w1 := by rw [hw1]; exact (Below.refl _ w).alloc (Nat.le_refl _) _
 have hbx : w1.heap[sb]? = some (.cells #[.pointer none, .slice fa fl fc, .slice ta tl tc, .bool true, .nilFunc] 77 (0, 0)) := by rw [hw1, hsb]; exact heap_alloc_new w _
 have HL := HoldT.mk (list_lost (root := root) (most := most) hbx)
 have HB := HoldT.mk hb1
 have HW := HoldT.mk (And.intro hsb hw1)
 clear hsb hw1 hb1 hbx
 go_enter Tryz.func15, Tryz.ntmps15
 go_upto_region 2 with (fail)
 rw [<- HW.out.1, <- HW.out.2]
 go_wp2_with fail
 refine HL.out.mono ?_
 rintro e w2 ⟨rfl, hb2⟩
 have HP := HoldT.mk (HB.out.trans (hb2.mono HB.out.size))
 clear hb2
 go_wp2_with fail
 exact bodyPost_ret (v := .tuple #[.slice none 0 0, .int .i64 7]) (by simp [results, Tryz.results15, go_sem]) rfl ⟨rfl, HP.out⟩
set_option maxHeartbeats 4000000 in
set_option maxRecDepth 100000 in
theorem walk_Up_few {w : World} {pb : Nat} {f t : Bts} {fv tv : Value} {root most : Int} (hf : YAt (cf w) fv f) (ht : YAt (cf w) tv t) (hq : root = -1 \/ most < 1 \/ (t ≠ [] /\ 0 <= lexC f t)) :
  Calls Tryz.prog 12 #[.pointer (some ⟨pb, 0, none⟩), .int .i64 root, fv, tv, .int .i64 most] w (fun e w' => e = .returned (.tuple #[.slice none 0 0, .int .i64 0]) /\ Below w.heap.size w w') := by
 obtain ⟨fa, fc, rfl⟩ := hf.form
 obtain ⟨ta, tc, rfl⟩ := ht.form
 obtain ⟨fl, hfl⟩ : ∃ x, x = f.length := ⟨_, rfl⟩
 obtain ⟨tl, htl⟩ : ∃ x, x = t.length := ⟨_, rfl⟩
 rw [<- hfl] at hf |-
 rw [<- htl] at ht |-
 obtain ⟨sb, hsb⟩ : ∃ q, q = w.heap.size := ⟨_, rfl⟩
 obtain ⟨w1, hw1⟩ : ∃ w1, w1 = w.alloc (.cells #[.pointer (some ⟨pb, 0, none⟩), .slice fa fl fc, .slice ta tl tc, .bool false, .nilFunc] 77) := ⟨_, rfl⟩
 have hb1 : Below w.heap.size w w1 := by rw [hw1]; exact (Below.refl _ w).alloc (Nat.le_refl _) _
 have hbx : w1.heap[sb]? = some (.cells #[.pointer (some ⟨pb, 0, none⟩), .slice fa fl fc, .slice ta tl tc, .bool false, .nilFunc] 77 (0, 0)) := by rw [hw1, hsb]; exact heap_alloc_new w _
 have hu := cle_below hb1
 have HL := HoldT.mk (list_few (root := root) (most := most) ⟨hbx, hf.mono RY_mono hu, ht.mono RY_mono hu⟩ hq)
 have HB := HoldT.mk hb1
 have HW := HoldT.mk (And.intro hsb hw1)
 clear hf ht hq hsb hw1 hb1 hbx hu hfl htl
 go_enter Tryz.func12, Tryz.ntmps12
 go_upto_region 2 with (fail)
 rw [<- HW.out.1, <- HW.out.2]
 go_wp2_with fail
 refine HL.out.mono ?_
 rintro e w2 ⟨rfl, hb2⟩
 have HP := HoldT.mk (HB.out.trans (hb2.mono HB.out.size))
 clear hb2
 go_wp2_with fail
 exact bodyPost_ret (v := .tuple #[.slice none 0 0, .int .i64 0]) (by simp [results, Tryz.results12, go_sem]) rfl ⟨rfl, HP.out⟩
set_option maxHeartbeats 4000000 in
set_option maxRecDepth 100000 in
theorem walk_Up_bad {A : Nat} {Q : PQ} {R : Int -> Option Bts} {H : HS} {S : PS} {p : Nat} {f : Bts} {fv tv : Value} {root : Int} {n : Nat} {w : World} (h : PG Q R H S p w) (hA : A <= w.heap.size /\ ∀ b, H.all b -> A <= b) (hf : YAt (cfL A w) fv f) (ht : YAt (cfL A w) tv []) (hn : ∀ s, 0 <= root -> S.is[root.toNat]? = some s -> s = 0) (hr : root ≠ -1) (hm : 1 <= n) :
  Calls Tryz.prog 12 #[.pointer (some ⟨Q.pb, 0, none⟩), .int .i64 root, fv, tv, .int .i64 (n : Int)] w (fun e w' => e = .returned (.tuple #[.slice none 0 0, .int .i64 11]) /\ Below w.heap.size w w') := by
 obtain ⟨fa, fc, rfl⟩ := hf.form
 obtain ⟨ta, tc, rfl⟩ := ht.form
 obtain ⟨fl, hfl⟩ : ∃ x, x = f.length := ⟨_, rfl⟩
 rw [<- hfl] at hf |-
 rw [List.length_nil] at ht |-
 obtain ⟨sb, hsb⟩ : ∃ q, q = w.heap.size := ⟨_, rfl⟩
 obtain ⟨w1, hw1⟩ : ∃ w1, w1 = w.alloc (.cells #[.pointer (some ⟨Q.pb, 0, none⟩), .slice fa fl fc, .slice ta 0 tc, .bool false, .nilFunc] 77) := ⟨_, rfl⟩
 have hb1 : Below w.heap.size w w1 := by rw [hw1]; exact (Below.refl _ w).alloc (Nat.le_refl _) _
 have hbx : w1.heap[sb]? = some (.cells #[.pointer (some ⟨Q.pb, 0, none⟩), .slice fa fl fc, .slice ta 0 tc, .bool false, .nilFunc] 77 (0, 0)) := by rw [hw1, hsb]; exact heap_alloc_new w _
 have hu : CLe (cfL A w) (cfL A w1) := cfL_below hb1
 have HL := HoldT.mk (list_bad (h.below hb1) ⟨hbx, hf.mono RY_mono (hu.trans (cfL_cf A w1)), ht.mono RY_mono (hu.trans (cfL_cf A w1))⟩ ⟨Nat.le_trans hA.1 hb1.size, hA.2⟩ (by have := hA.1; omega) (hf.mono RY_mono hu) (ht.mono RY_mono hu) (fun e => by have := h.lt sb e; omega) hn hr hm)
 have HB := HoldT.mk (And.intro hb1 (show w.heap.size <= sb by omega))
 have HW := HoldT.mk (And.intro hsb hw1)
 clear h hA hf ht hn hr hm hsb hw1 hb1 hbx hu hfl
 go_enter Tryz.func12, Tryz.ntmps12
 go_upto_region 2 with (fail)
 rw [<- HW.out.1, <- HW.out.2]
 go_wp2_with fail
 refine HL.out.mono ?_
 rintro e w2 ⟨rfl, hT⟩
 have HP := HoldT.mk (show Below w.heap.size w w2 from ⟨hT.os.trans HB.out.1.os, hT.tape.trans HB.out.1.tape, hT.output.trans HB.out.1.output, Nat.le_trans HB.out.1.size hT.size, fun b hb => (hT.out b (Nat.lt_of_lt_of_le hb HB.out.1.size) (fun e => by have := HB.out.2; omega)).1.trans (HB.out.1.block b hb)⟩)
 clear hT
 go_wp2_with fail
 exact bodyPost_ret (v := .tuple #[.slice none 0 0, .int .i64 11]) (by simp [results, Tryz.results12, go_sem]) rfl ⟨rfl, HP.out⟩
end Go.Proofs.YtmiphphombkpdaaGreat
namespace Go.Proofs.YtmiphphombkpdaaGreat
open Go.RowKit Go.Maps
theorem sub_flat {α β : Type} {f : α -> List β} : ∀ {l : List α} {x : α}, x ∈ l -> (f x).Sublist (l.flatMap f)
 | a :: l, x, h => by
  rw [List.flatMap_cons]
  rcases List.mem_cons.1 h with e | h
  ·rw [e]
   exact List.sublist_append_left ..
  ·exact (sub_flat h).trans (List.sublist_append_right ..)
theorem sub_tree {S : PS} : ∀ (h : Nat) {t : Tree h}, TreeIn S h t -> ∀ p ∈ pagesT h t, ∃ (g : Nat) (u : Tree g), g <= h /\ pgT g u = p /\ TreeIn S g u /\ (pagesT g u).length <= (pagesT h t).length /\ (esT g u).length <= (esT h t).length
 | 0, t, ht, p, hp => by
  have e : p = t.1 := List.mem_singleton.1 hp
  exact ⟨0, t, Nat.le_refl _, e.symm, ht, Nat.le_refl _, Nat.le_refl _⟩
 | h + 1, t, ht, p, hp => by
  rcases List.mem_cons.1 (show p ∈ t.1 :: t.2.1.flatMap (pagesT h) from hp) with e | hp2
  ·exact ⟨h + 1, t, Nat.le_refl _, e.symm, ht, Nat.le_refl _, Nat.le_refl _⟩
  ·obtain ⟨x, hx, hpx⟩ := List.mem_flatMap.1 hp2
   have hs : (pagesT h x).Sublist (pagesT (h + 1) t) := (sub_flat (f := pagesT h) hx).trans (List.sublist_cons_self t.1 _)
   have hx2 : TreeIn S h x := ⟨ht.wf.2.2.2.2.2.1 x hx, ht.sits.2 x hx, hs.nodup ht.nd, fun q hq => ht.fresh q (hs.subset hq)⟩
   obtain ⟨g, u, h1, h2, h3, h4, h5⟩ := sub_tree h hx2 p hpx
   refine ⟨g, u, by omega, h2, h3, Nat.le_trans h4 hs.length_le, Nat.le_trans h5 ?_⟩
   exact (sub_flat (f := esT h) hx).length_le
theorem lw_inUse {Q : PQ} {R : Int -> Option Bts} {H : HS} {S : PS} {p mb : Nat} {o : Top} {root r : Int} {sl : Value} {w0 w : World} (h : LW Q R H S p mb o root sl w0 w) (hr : inUse S r) : ∃ o', TopIn S o' r /\ heightO o' <= 20 /\ (pagesO o').length <= (pagesO o).length /\ (esO o').length <= 1000000 := by
 obtain ⟨h0, s, hs, hs2⟩ := hr
 obtain ⟨l1, l2, l3, _⟩ := h.low
 have hm : r.toNat ∈ pagesO o := by
  by_cases e : r.toNat ∈ pagesO o
  ·exact e
  ·have := h.only.rest _ _ hs e
   omega
 match o, h.top, hm, l1, l2, l3 with
 | some ⟨g, t⟩, ht, hm, l1, l2, l3 =>
  obtain ⟨g2, u, h1, h2, h3, h4, h5⟩ := sub_tree g ht.2 _ hm
  refine ⟨some ⟨g2, u⟩, ⟨?_, h3⟩, ?_, h4, ?_⟩
  ·rw [h2]
   omega
  ·have l1' : g + 1 <= 20 := l1
   show g2 + 1 <= 20
   omega
  ·have l3' : (esT g t).length <= 1000000 := l3
   show (esT g2 u).length <= 1000000
   omega
theorem RangePost.more {Q : PQ} {R : Int -> Option Bts} {H : HS} {S : PS} {p c c' : Nat} {es : EL} {w w' : World} {e : Ending} (h : RangePost Q R H S p c es w e w') (hc : c <= c') : RangePost Q R H S p c' es w e w' := by
 obtain ⟨sl, H', S', p', h1, h2, h3, h4, h5, h6, h7⟩ := h
 exact ⟨sl, H', S', p', h1, h2, h3, h4, h5, h6, by omega⟩
theorem one_five {w : World} {b : Nat} (h : w.heap[b]? = some (.cells #[.int .u8 5] 5 (0, 0))) : YAt (cf w) (.slice (some ⟨b, 0, none⟩) 1 1) [5] := by
 refine ⟨_, _, rfl, Nat.le_refl _, by decide, fun i x hx => ?_⟩
 match i, hx with
 | 0, hx =>
  cases hx
  refine ⟨b, 0, _, rfl, rfl, fun j u hu => ?_, rfl⟩
  match j, hu with
  | 0, hu => cases hu; simp [cf, World.cell?, h]
theorem mem_next {U : List Int} {j : Nat} {x r : Int} (h : U[j]? = some x) : decide (r ∈ U.take (j + 1)) = (decide (r ∈ U.take j) || decide (x = r)) := by
 rw [take_succ h, Bool.eq_iff_iff]
 simp only [decide_eq_true_eq, Bool.or_eq_true, List.mem_append, List.mem_singleton]
 constructor
 ·rintro (e | e)
  ·exact .inl e
  ·exact .inr e.symm
 ·rintro (e | e)
  ·exact .inl e
  ·exact .inr e.symm
set_option maxHeartbeats 16000000 in
set_option maxRecDepth 100000 in
theorem walkBad_walk {W : World} {l : List LOp} {a fa ta : Option Addr} {n c fl fc tl tc : Nat} {f t : Bts} {most root : Int} (h : LA W l a fa ta n c fl fc tl tc f t) (hmw : (Lit.int .i64 most).wf = true) :
  Calls Tryz.prog 6 #[.slice a n c, .int .i64 root, .agg #[.slice fa fl fc, .slice ta tl tc, .int .i64 most]] W fun e w' => e = .returned (.bool true) /\ Below W.heap.size W w' := by
 have HH := HoldT.mk (And.intro h hmw)
 clear h hmw
 obtain ⟨q, hq⟩ : ∃ q, q = W.heap.size := ⟨_, rfl⟩
 obtain ⟨w1, hw1⟩ : ∃ w1, w1 = W.alloc (.cells #[.slice fa fl fc, .slice ta tl tc, .int .i64 most] 25) := ⟨_, rfl⟩
 have hb1 : Below W.heap.size W w1 := by rw [hw1]; exact (Below.refl _ W).alloc (Nat.le_refl _) _
 have hbx : w1.heap[q]? = some (.cells #[.slice fa fl fc, .slice ta tl tc, .int .i64 most] 25 (0, 0)) := by rw [hw1, hq]; exact heap_alloc_new W _
 have HB1 := HoldT.mk (And.intro hb1 hbx)
 have HW := HoldT.mk (And.intro hq hw1)
 have HA1 := HoldT.mk (law_awake w1)
 clear hb1 hbx hq hw1
 have HX : HoldT (∀ wz : World, Below w1.heap.size w1 wz -> wz.cell? ⟨q, 0, none⟩ = some (.slice fa fl fc) /\ wz.cell? ⟨q, 1, none⟩ = some (.slice ta tl tc) /\ wz.cell? ⟨q, 2, none⟩ = some (.int .i64 most)) := ⟨fun wz hz => by
  have hk := kept HB1.out.2 hz
  refine ⟨?_, ?_, ?_⟩ <;> simp [World.cell?, hk]⟩
 go_enter Tryz.func6, Tryz.ntmps6
 go_upto_region 1 with (fail)
 rw [<- HW.out.1, <- HW.out.2]
 go_wp2_with fail
 refine HA1.out.mono ?_
 rintro e w2 ⟨rfl, hb2⟩
 have HFE := HoldT.mk (law_few a fa ta n c fl fc tl tc most w2)
 obtain ⟨x0, x1, x2⟩ := HX.out w2 hb2
 have HB2 := HoldT.mk hb2
 clear hb2
 go_wp2_with fail
 refine HFE.out.mono ?_
 rintro e wb ⟨rfl, hb3⟩
 have HBb := HoldT.mk (HB2.out.trans (hb3.mono HB2.out.size))
 clear hb3 x0 x1 x2
 obtain ⟨fw, hfw⟩ : ∃ fw, fw = (decide (n <= 80) && decide (fl <= 1000) && decide (tl <= 1000)) := ⟨_, rfl⟩
 rw [<- hfw]
 cases fw
 ·clear hfw
  have HA2 := HoldT.mk (law_awake wb)
  go_wp2_with fail
  refine HA2.out.mono ?_
  rintro e wb' ⟨rfl, hb4⟩
  have HE := HoldT.mk (HB1.out.1.trans ((HBb.out.trans (hb4.mono HBb.out.size)).mono HB1.out.1.size))
  clear hb4
  go_wp2_with fail
  go_ret
  exact ⟨rfl, HE.out⟩
 simp only [Bool.true_eq, Bool.and_eq_true, decide_eq_true_eq] at hfw
 have HN := HoldT.mk hfw.1.1
 clear hfw
 have HWB := HoldT.mk (HB1.out.1.trans (HBb.out.mono HB1.out.1.size))
 have HBU := HoldT.mk (law_built (w0 := wb) (HH.out.1.list.mono ROp12_mono (cle_below HWB.out)) (by rw [<- HH.out.1.len]; exact HN.out))
 go_wp2_with fail
 refine HBU.out.mono ?_
 rintro e w5 ⟨Q, R, H, S, p, tb, mb, o, rt, sl, rfl, hL, he⟩
 obtain ⟨hw, hp⟩ := hL.lw (by rw [<- HH.out.1.len]; exact HN.out)
 have HL0 := HoldT.mk (And.intro hw hp)
 have HUS := HoldT.mk (pages_used hw.pg.own (by rw [hL.len]; omega))
 obtain ⟨U, hU⟩ : ∃ U, U = usedTo S.is S.is.length := ⟨_, rfl⟩
 rw [<- hU] at HUS
 have HIU := HoldT.mk (show ∀ r, r ∈ U ↔ inUse S r from fun r => by rw [hU]; exact usedTo_mem)
 have hul : U.length <= 300 := by rw [hU]; exact Nat.le_trans (usedTo_len _ _) (by rw [hL.len]; exact Nat.le_refl _)
 clear hL he hw hp HBU hU
 go_wp2_with fail
 refine HUS.out.mono ?_
 rintro e w6 ⟨uv, csu, rfl, hou, hb6⟩
 obtain ⟨ua, uc, rfl⟩ := hou.shape
 obtain ⟨un, hun⟩ : ∃ un, un = U.length := ⟨_, rfl⟩
 rw [<- hun] at hou hul |-
 have HL6 := HoldT.mk (And.intro (HL0.out.1.quiet hb6) HL0.out.2)
 have hat := hou.at_ RI_mono
 have HU6 := HoldT.mk (And.intro hat hun)
 clear hou hb6 HUS HL0 hat hun
 go_wp2_with fail
 go_loopw [10, 12] (fun s10 s12 wr => ∃ j : Nat, s10 = .bool (decide (root ∈ U.take j)) /\ s12 = .int .i64 (j : Int) /\ j <= un /\ wr = w6) (fun _ s12 _ => un - (intOf s12).toNat)
 case atStart => exact ⟨0, by simp, rfl, Nat.zero_le _, rfl⟩
 case round =>
  obtain ⟨j, rfl, rfl, hj, rfl⟩ := hrel
  by_cases hlt : j < un
  ·obtain ⟨x, hx⟩ : ∃ x, U[j]? = some x := ⟨U[j]'(by rw [<- HU6.out.2]; exact hlt), List.getElem?_eq_getElem _⟩
   obtain ⟨_, _, e9, _, _, hel⟩ := HU6.out.1
   simp only [Value.slice.injEq] at e9
   obtain ⟨b, off, d, ea, hd, hc, hr⟩ := hel j x hx
   obtain rfl : ua = some ⟨b, off, none⟩ := e9.1.trans ea
   have hr' : d = [.int .i64 x] := hr
   subst hr'
   have c0 := hc 0 _ rfl
   unfold cf at c0
   rw [Nat.mul_one, Nat.add_zero] at c0
   have hmn := mem_next (r := root) hx
   have b1 : decide ((j : Int) < (un : Int)) = true := decide_eq_true (by omega)
   obtain ⟨d1, hd1⟩ : ∃ d1, d1 = decide (root ∈ U.take j) := ⟨_, rfl⟩
   rw [<- hd1] at hmn |-
   have HMN := HoldT.mk hmn
   clear e9 hel ea hd hc hr hx hmn hd1
   cases d1
   ·by_cases hxr : x = root
    ·have z0 : (x == root) = true := by rw [hxr]; exact beq_self_eq_true _
     have HD := HoldT.mk (show decide (root ∈ U.take (j + 1)) = true by rw [HMN.out, decide_eq_true hxr]; rfl)
     clear hxr
     go_wp2_with fail
     exact ⟨⟨j + 1, by rw [HD.out], by go_num, hlt, trivial⟩, by simp [intOf]; omega⟩
    ·have z0 : (x == root) = false := beq_eq_false_iff_ne.2 hxr
     have HD := HoldT.mk (show decide (root ∈ U.take (j + 1)) = false by rw [HMN.out, decide_eq_false hxr]; rfl)
     clear hxr
     go_wp2_with fail
     exact ⟨⟨j + 1, by rw [HD.out], by go_num, hlt, trivial⟩, by simp [intOf]; omega⟩
   ·have HD := HoldT.mk (show decide (root ∈ U.take (j + 1)) = true by rw [HMN.out]; rfl)
    go_wp2_with fail
    exact ⟨⟨j + 1, by rw [HD.out], by go_num, hlt, trivial⟩, by simp [intOf]; omega⟩
  ·obtain rfl : j = un := by omega
   rw [List.take_of_length_le (by rw [<- HU6.out.2]; exact Nat.le_refl _)]
   obtain ⟨ub, hub⟩ : ∃ ub, ub = decide (root ∈ U) := ⟨_, rfl⟩
   rw [<- hub]
   have HUB := HoldT.mk hub
   clear hub
   have b1 : ¬ (j : Int) < (j : Int) := by omega
   go_upto_region 12 with (fail)
   have HWR := HoldT.mk (HBb.out.trans (HL6.out.1.bel.mono HBb.out.size))
   have h3 : root = -1 \/ (root ≠ -1 /\ ub = true) \/ (root ≠ -1 /\ ub = false) := by
    by_cases e : root = -1
    ·exact .inl e
    ·cases ub
     ·exact .inr (.inr ⟨e, rfl⟩)
     ·exact .inr (.inl ⟨e, rfl⟩)
   have HYN := HoldT.mk (fun (wz : World) => yat_none (cfL wb.heap.size wz))
   have HYN2 := HoldT.mk (fun (wz : World) => yat_none (cf wz))
   rcases h3 with hr | ⟨hr, hu⟩ | ⟨hr, hu⟩
   case' inl =>
    have br : (root == -1) = true := by rw [hr]; rfl
    have HUf := HoldT.mk (walk_Up_few (pb := Q.pb) (root := root) (most := 5) (HYN2.out wr) (HYN2.out wr) (.inl hr))
    clear hr
    go_wp2_with fail
    refine HUf.out.mono ?_
    rintro e w8 ⟨rfl, hb8⟩
    have HB8 := HoldT.mk (HWR.out.trans (hb8.mono HWR.out.size))
    clear hb8 HUf
    go_upto_region 13 with (fail)
   case' inr.inl =>
    subst hu
    have br : (root == -1) = false := beq_eq_false_iff_ne.2 hr
    obtain ⟨o', ht', hh', hp', he'⟩ := lw_inUse HL6.out.1 ((HIU.out root).1 (of_decide_eq_true HUB.out.symm))
    have hlow := HL6.out.1.low.2.1
    have hpf := HL6.out.2
    have HUf := HoldT.mk (walk_Up (most := 5) HL6.out.1.pg ⟨HL6.out.1.bel.size, HL6.out.1.new⟩ (HYN.out wr) (HYN.out wr) ht' (by omega) hh' he')
    have HP := HoldT.mk hp'
    clear hr ht' hh' hp' he' hlow hpf
    go_wp2_with fail
    refine HUf.out.mono ?_
    intro e w8 hpost
    obtain ⟨sv8, H8, S8, p8, rfl, hw8, _, hr8, _⟩ := HL6.out.1.ranged (hpost.more (Nat.mul_le_mul_left 4 HP.out))
    obtain ⟨a8, c8, rfl⟩ := hr8.at_.form
    have HB8 := HoldT.mk (HBb.out.trans (hw8.bel.mono HBb.out.size))
    clear hpost hw8 hr8 HUf HP
    go_upto_region 13 with (fail)
   case' inr.inr =>
    subst hu
    have br : (root == -1) = false := beq_eq_false_iff_ne.2 hr
    have hni : ¬ inUse S root := fun e => by
     have := (HIU.out root).2 e
     have h2 := HUB.out
     rw [decide_eq_true this] at h2
     cases h2
    have hz : ∀ s, 0 <= root -> S.is[root.toNat]? = some s -> s = 0 := fun s h0 hs => by
     by_cases e : root.toNat ∈ pagesO o
     ·exact absurd ⟨h0, 2, HL6.out.1.only.fresh _ e, .inr rfl⟩ hni
     ·exact HL6.out.1.only.rest _ _ hs e
    have HUf := HoldT.mk (walk_Up_bad (n := 5) HL6.out.1.pg ⟨HL6.out.1.bel.size, HL6.out.1.new⟩ (HYN.out wr) (HYN.out wr) hz hr (by omega))
    clear hr hni hz
    go_wp2_with fail
    refine HUf.out.mono ?_
    rintro e w8 ⟨rfl, hb8⟩
    have HB8 := HoldT.mk (HWR.out.trans (hb8.mono HWR.out.size))
    clear hb8 HUf
    go_upto_region 13 with (fail)
   all_goals
    have HDL := HoldT.mk (walk_Down_lost (w := w8) (fa := none) (ta := none) (fl := 0) (fc := 0) (tl := 0) (tc := 0) (root := root) (most := 5))
    go_wp2_with fail
    refine HDL.out.mono ?_
    rintro e w9 ⟨rfl, hb9⟩
    have HB9 := HoldT.mk (HB8.out.trans (hb9.mono HB8.out.size))
    clear hb9 HDL
    obtain ⟨q1, hq1⟩ : ∃ q, q = w9.heap.size := ⟨_, rfl⟩
    obtain ⟨w10, hw10⟩ : ∃ w, w = w9.alloc (.cells #[.int .u8 5] 5) := ⟨_, rfl⟩
    have hb10 : Below w9.heap.size w9 w10 := by rw [hw10]; exact (Below.refl _ w9).alloc (Nat.le_refl _) _
    have h10 : w10.heap[q1]? = some (.cells #[.int .u8 5] 5 (0, 0)) := by rw [hw10, hq1]; exact heap_alloc_new w9 _
    obtain ⟨q2, hq2⟩ : ∃ q, q = w10.heap.size := ⟨_, rfl⟩
    obtain ⟨w11, hw11⟩ : ∃ w, w = w10.alloc (.cells #[.int .u8 5] 5) := ⟨_, rfl⟩
    have hb11 : Below w10.heap.size w10 w11 := by rw [hw11]; exact (Below.refl _ w10).alloc (Nat.le_refl _) _
    have h11 : w11.heap[q2]? = some (.cells #[.int .u8 5] 5 (0, 0)) := by rw [hw11, hq2]; exact heap_alloc_new w10 _
    have hq12 : q1 + 1 = q2 := by rw [hq2, hw10, hq1]; simp
    have HFv := HoldT.mk (walk_Up_few (pb := Q.pb) (root := root) (most := 5) (one_five (kept h10 hb11)) (one_five h11) (.inr (.inr ⟨by simp, by decide⟩)))
    have HB11 := HoldT.mk (HB9.out.trans ((hb10.trans (hb11.mono hb10.size)).mono HB9.out.size))
    have HW11 := HoldT.mk (And.intro hq1 (And.intro hw10 (And.intro hq12 hw11)))
    clear hq1 hw10 hb10 h10 hq2 hw11 hb11 h11 hq12
    go_upto_region 14 with (fail)
    go_wp2_with fail
    rw [<- HW11.out.1, <- HW11.out.2.1, HW11.out.2.2.1, <- HW11.out.2.2.2]
    clear HW11
    refine HFv.out.mono ?_
    rintro e w12 ⟨rfl, hb12⟩
    have HB12 := HoldT.mk (HB11.out.trans (hb12.mono HB11.out.size))
    obtain ⟨_, _, x2⟩ := HX.out w12 HB12.out
    have HFe := HoldT.mk (walk_Up_few (w := w12) (pb := Q.pb) (root := root) (most := min most 0) (HYN2.out w12) (HYN2.out w12) (.inr (.inl (by omega))))
    clear hb12 HFv
    go_wp2_with fail
    refine HFe.out.mono ?_
    rintro e w13 ⟨rfl, hb13⟩
    have HE := HoldT.mk (HB1.out.1.trans ((HB12.out.trans (hb13.mono HB12.out.size)).mono HB1.out.1.size))
    clear hb13 HFe x2
    go_wp2_with fail
    go_ret
    exact ⟨rfl, HE.out⟩
end Go.Proofs.YtmiphphombkpdaaGreat
namespace Go.Proofs.YtmiphphombkpdaaGreat
open Go.ChangeShapes Go.WideShapes Go.ChangeAt Go.RowKit
set_option maxRecDepth 100000 in
set_option maxHeartbeats 2000000 in
theorem WalkBad.lifted (os : Os) (started : os.Started) (H : Type) (enc : TypeId × Value -> H) :
  ReturnsInHanded {} Tryz.checked os 6 .any (Rows.walkBadSpec.pre6 enc Tryz.prog Tryz.f6 Rows.walkBadRow.domain false) (Rows.walkBadSpec.post enc Tryz.prog Tryz.f6 false true false false) := by
 refine returnsInHanded_of_change (C := Tryz.checked) Tryz.own started (by kernel_rfl) Tryz.func6
  (ChangeSpec.witness6 (enc := enc) (C := Tryz.checked) false ⟨#[], #[.slice none 0 0, .int .i64 0, .agg #[.slice none 0 0, .slice none 0 0, .int .i64 0]], []⟩ 8 (by kernel_rfl) (by kernel_rfl) (by kernel_rfl) (by kernel_rfl)) ?_
 intro W base args ds gs before hval0 hW hcnd _
 have hval : ∀ (j : Nat) t v, Tryz.f6.params[j]? = some t -> args[j]? = some v -> Value.okWide Tryz.prog W .any base t v := hval0
 have hW' := hW
 obtain ⟨p, q, hA0, hV, rfl, hfz, hnd⟩ := hW
 have hA : DataW.TrodAll enc Tryz.prog W 0 (fun _ => true) true Tryz.f6.params.toList args.toList ds p := hA0
 rw [Tryz.params6] at hA hval
 obtain ⟨a0, vs0, d0, ds0, p0, q0, hargs, rfl, rfl, h0, r0⟩ := trodAll_cons hA
 obtain ⟨a1, vs1, d1, ds1, p1, q1, rfl, rfl, rfl, h1, r1⟩ := trodAll_cons r0
 obtain ⟨a2, vs2, d2, ds2, p2, q2, rfl, rfl, rfl, h2, r2⟩ := trodAll_cons r1
 obtain ⟨rfl, rfl, rfl⟩ := trodAll_nil r2
 obtain rfl : args = #[a0, a1, a2] := by cases args; simp_all
 obtain ⟨rfl, rfl⟩ := trodVars_none hV
 have k0 := h0
 have lt0 : ∀ x ∈ p0, x.block < W.heap.size := by obtain ⟨m, hm⟩ := k0; exact DataW.trod_lt m _ _ _ hm
 obtain ⟨l, la, ln, lc, rfl, hln, hl⟩ := lops_of_Trod (hval 0 _ a0 rfl rfl) h0
 have k1 := h1
 have lt1 : ∀ x ∈ p1, x.block < W.heap.size := by obtain ⟨m, hm⟩ := k1; exact DataW.trod_lt m _ _ _ hm
 obtain ⟨root, rfl, _, _, hrw⟩ := open_int Tryz.underlying3 (hval 1 _ a1 rfl rfl) h1
 have k2 := h2
 have lt2 : ∀ x ∈ p2, x.block < W.heap.size := by obtain ⟨m, hm⟩ := k2; exact DataW.trod_lt m _ _ _ hm
 obtain ⟨f, t, fa, ta, fl, fc, tl, tc, most, rfl, hmw, hfl, htl, hf, ht⟩ := range_of_Trod (hval 2 _ a2 rfl rfl) h2
 clear hA0 hval0
 refine (walkBad_walk (W := W) (l := l) (f := f) (t := t) (most := most) (root := root) ⟨hl, hln, hf, ht⟩ hmw).mono fun e W' ⟨he, bel⟩ => ?_
 subst he
 exact ⟨_, rfl, _, _, _, [], _, [], hW', trodAll_mk1 (shut_bool Tryz.underlying4 _), (trodAll_cons_mk (Below.trod Tryz.laidOut (by kernel_rfl) (of_decide_eq_true (by kernel_rfl)) k0 bel lt0) (trodAll_cons_mk (Below.trod Tryz.laidOut (by kernel_rfl) (of_decide_eq_true (by kernel_rfl)) k1 bel lt1) (trodAll_cons_mk (Below.trod Tryz.laidOut (by kernel_rfl) (of_decide_eq_true (by kernel_rfl)) k2 bel lt2) trodAll_mk0))), rfl, bel.frame _, fun h => by cases h⟩
theorem WalkBad.over : Rows.walkBadRow.holds Tryz.pinned (OpenSpec.ofChange Rows.walkBadSpec) :=
 OpenClaim.holds_of_wide 6 Tryz.f6 rfl rfl rfl rfl rfl rfl rfl ⟨rfl, rfl, rfl, rfl, rfl⟩ rfl rfl rfl rfl rfl (by kernel_rfl) Tryz.func6 (by kernel_rfl)
  (of_decide_eq_true (by kernel_rfl)) (by unfold Func.isWrapper; first | (rw [if_pos (by decide +kernel)]; kernel_rfl) | (rw [if_neg (by decide +kernel)]; exact ⟨rfl, rfl⟩))
  (fun os started H enc _ => WalkBad.lifted os started H enc)
theorem walkBad_holds : Rows.WalkBadSaid := WalkBad.over
#print axioms walkBad_holds
end Go.Proofs.YtmiphphombkpdaaGreat
