/- The law WalkRanges, walked (printed by genXXT.py). -/
import Derived.Test.YtmiphphombkpdaaGreatWR01
import Derived.Test.YtmiphphombkpdaaGreatWR03
import Derived.Test.YtmiphphombkpdaaGreatWR48
import Derived.Test.YtmiphphombkpdaaGreatWR49
import Derived.ProofKit
import Derived.OpenShut
import Derived.Deep.Slices
import Derived.ChangeOld
namespace Go.Proofs.YtmiphphombkpdaaGreat
open Go.RowKit Go.Maps
theorem Got.sat {u : CF} {w wr w2 : World} {s : Value} {ls : EL} (h : Got u w wr s ls) (hb : Below wr.heap.size wr w2) (hu : CLe u (cfU w2)) : SAt 2 (RE (cfU w2)) (cf w2) s ls := by
 obtain ⟨cs, ho⟩ := (h.quiet hb).row
 exact (ho.rep (RE_le hu)).at_ (RE_mono _)
theorem ask_len {back : Bool} {f t : Bts} {most : Int} {es : EL} {n : Nat} (h : es.length <= n) : (askE back f t most es).length <= n := by
 unfold askE
 refine Nat.le_trans (Nat.le_trans (by rw [List.length_take]; exact Nat.min_le_right _ _) (List.length_filter_le _ (ordE back es))) ?_
 unfold ordE
 split
 ·rw [List.length_reverse]; exact h
 ·exact h
theorem LW.first {Q : PQ} {R : Int -> Option Bts} {H : HS} {S : PS} {p mb : Nat} {o : Top} {root : Int} {sl fv tv : Value} {w0 w : World} {f t : Bts} (h : LW Q R H S p mb o root sl w0 w) (hp : p <= 900000) (hf : YAt (cfL w0.heap.size w) fv f) (ht : YAt (cfL w0.heap.size w) tv t) :
  Calls Tryz.prog 17 #[.pointer (some ⟨Q.pb, 0, none⟩), .int .i64 root, fv, tv] w (FirstPost Q R H S p (4 * (pagesO o).length) (listE false f t 1 o).head? w) := by
 obtain ⟨h1, h2, h3, _⟩ := h.low
 exact walk_First h.pg ⟨h.bel.size, h.new⟩ hf ht h.top (by omega) h1 h3
theorem LW.firsted {Q : PQ} {R : Int -> Option Bts} {H : HS} {S : PS} {p mb : Nat} {o : Top} {root : Int} {sl : Value} {w0 w w' : World} {x : Option (Bts × Bts)} {e : Ending} (h : LW Q R H S p mb o root sl w0 w) (hp : FirstPost Q R H S p (4 * (pagesO o).length) x w e w') :
  ∃ (ka : Option Addr) (kn kc : Nat) (va : Option Addr) (vn vc : Nat) (H' : HS) (S' : PS) (p' : Nat), e = .returned (.tuple #[.agg #[.slice ka kn kc, .slice va vn vc], .bool x.isSome, .int .i64 0]) /\ (∀ y, x = some y -> YAt (cfU w') (.slice ka kn kc) y.1 /\ YAt (cfU w') (.slice va vn vc) y.2) /\ LW Q R H' S' p' mb o root sl w0 w' /\ p' <= p + 316 /\ TurnS H.all w H'.all w' /\ CLe (cfU w) (cfU w') := by
 obtain ⟨ka, kn, kc, va, vn, vc, H', S', p', rfl, hx, hG, hS, hT, hq⟩ := hp
 have hl := h.low.2.1
 refine ⟨ka, kn, kc, va, vn, vc, H', S', p', rfl, hx, ?_, by omega, hT, cfU_turn hT h.pg.noU⟩
 obtain ⟨m1, m2⟩ := h.map.turn hT h.apart h.pg.noU
 refine ⟨hG, h.top.same hS, h.ok, ?_, m1, m2, ⟨hT.os.trans h.bel.os, hT.tape.trans h.bel.tape, hT.output.trans h.bel.output, Nat.le_trans h.bel.size hT.size, fun b hb => ?_⟩, hT.above h.new h.bel.size⟩
 ·refine ⟨h.only.nd, fun q hq => by rw [hS.1]; exact h.only.fresh q hq, fun q s hq hn => h.only.rest q s (by rw [<- hS.1]; exact hq) hn⟩
 ·exact (hT.out b (Nat.lt_of_lt_of_le hb h.bel.size) (fun e => by have := h.new b e; omega)).1.trans (h.bel.block b hb)
structure LA (W : World) (l : List LOp) (a fa ta : Option Addr) (n c fl fc tl tc : Nat) (f t : Bts) : Prop where
 list : SAt 4 ROp12 (cf W) (.slice a n c) l
 len : n = l.length
 from_ : YAt (cf W) (.slice fa fl fc) f
 to_ : YAt (cf W) (.slice ta tl tc) t
set_option maxHeartbeats 16000000 in
set_option maxRecDepth 100000 in
theorem walkRanges_walk {W : World} {l : List LOp} {a fa ta : Option Addr} {n c fl fc tl tc : Nat} {f t : Bts} {most : Int} (h : LA W l a fa ta n c fl fc tl tc f t) :
  Calls Tryz.prog 5 #[.slice a n c, .agg #[.slice fa fl fc, .slice ta tl tc, .int .i64 most]] W fun e w' => e = .returned (.bool true) /\ Below W.heap.size W w' := by
 have HH := HoldT.mk h
 clear h
 obtain ⟨q, hq⟩ : ∃ q, q = W.heap.size := ⟨_, rfl⟩
 obtain ⟨w1, hw1⟩ : ∃ w1, w1 = W.alloc (.cells #[.slice fa fl fc, .slice ta tl tc, .int .i64 most] 25) := ⟨_, rfl⟩
 have hb1 : Below W.heap.size W w1 := by rw [hw1]; exact (Below.refl _ W).alloc (Nat.le_refl _) _
 have hbx : w1.heap[q]? = some (.cells #[.slice fa fl fc, .slice ta tl tc, .int .i64 most] 25 (0, 0)) := by rw [hw1, hq]; exact heap_alloc_new W _
 have HB1 := HoldT.mk (And.intro hb1 hbx)
 have HW := HoldT.mk (And.intro hq hw1)
 have HA1 := HoldT.mk (law_awake w1)
 clear hb1 hbx hq hw1
 have HX : HoldT (∀ wz : World, Below w1.heap.size w1 wz -> wz.cell? ⟨q, 0, none⟩ = some (.slice fa fl fc) /\ wz.cell? ⟨q, 1, none⟩ = some (.slice ta tl tc) /\ wz.cell? ⟨q, 2, none⟩ = some (.int .i64 most)) := ⟨fun wz hz => by
  have hk := kept HB1.out.2 hz
  refine ⟨?_, ?_, ?_⟩ <;> simp [World.cell?, hk]⟩
 go_enter Tryz.func5, Tryz.ntmps5
 go_upto_region 1 with (fail)
 rw [<- HW.out.1, <- HW.out.2]
 go_wp2_with fail
 refine HA1.out.mono ?_
 rintro e w2 ⟨rfl, hb2⟩
 have HFE := HoldT.mk (law_few a fa ta n c fl fc tl tc most w2)
 obtain ⟨x0, x1, x2⟩ := HX.out w2 hb2
 have HB2 := HoldT.mk hb2
 clear hb2
 go_wp2_with fail
 refine HFE.out.mono ?_
 rintro e w3 ⟨rfl, hb3⟩
 have HB3 := HoldT.mk (HB2.out.trans (hb3.mono HB2.out.size))
 clear hb3 x0 x1 x2
 obtain ⟨fw, hfw⟩ : ∃ fw, fw = (decide (n <= 80) && decide (fl <= 1000) && decide (tl <= 1000)) := ⟨_, rfl⟩
 rw [<- hfw]
 cases fw
 ·clear hfw
  have HA2 := HoldT.mk (law_awake w3)
  go_wp2_with fail
  refine HA2.out.mono ?_
  rintro e w4 ⟨rfl, hb4⟩
  have HE := HoldT.mk (HB1.out.1.trans ((HB3.out.trans (hb4.mono HB3.out.size)).mono HB1.out.1.size))
  clear hb4
  go_wp2_with fail
  go_ret
  exact ⟨rfl, HE.out⟩
 ·simp only [Bool.true_eq, Bool.and_eq_true, decide_eq_true_eq] at hfw
  have hwb := HB1.out.1.trans (HB3.out.mono HB1.out.1.size)
  have HBU := HoldT.mk (law_built (w0 := w3) (HH.out.list.mono ROp12_mono (cle_below hwb)) (by rw [<- HH.out.len]; exact hfw.1.1))
  have HN := HoldT.mk hfw.1.1
  have HWB := HoldT.mk hwb
  clear hfw hwb
  go_wp2_with fail
  refine HBU.out.mono ?_
  rintro e w4 ⟨Q, R, H, S, p, tb, mb, o, root, sl, rfl, hL, he⟩
  obtain ⟨hw, hp⟩ := hL.lw (by rw [<- HH.out.len]; exact HN.out)
  have HYF : HoldT (∀ wz : World, Below w3.heap.size w3 wz -> YAt (cfL w3.heap.size wz) (.slice fa fl fc) f /\ YAt (cfL w3.heap.size wz) (.slice ta tl tc) t) := ⟨fun wz hz => ⟨(HH.out.from_.mono RY_mono (cle_below HWB.out)).mono RY_mono (cf_cfL (Nat.le_refl _) hz), (HH.out.to_.mono RY_mono (cle_below HWB.out)).mono RY_mono (cf_cfL (Nat.le_refl _) hz)⟩⟩
  have HU := HoldT.mk (hw.up (most := most) (by omega) (HYF.out w4 hw.bel).1 (HYF.out w4 hw.bel).2)
  have HL4 := HoldT.mk (And.intro hw hp)
  obtain ⟨x0, x1, x2⟩ := HX.out w4 (HB3.out.trans (hw.bel.mono HB3.out.size))
  clear hL he hw hp HBU
  go_upto_region 6 with (fail)
  go_wp2_with fail
  refine HU.out.mono ?_
  intro e w5 hpost
  obtain ⟨sv5, H5, S5, p5, rfl, hw5, hp5, hr5, hT5, hu5, _⟩ := HL4.out.1.ranged hpost
  have hq5 := HL4.out.2
  have HD := HoldT.mk (hw5.down (most := most) (by omega) (HYF.out w5 hw5.bel).1 (HYF.out w5 hw5.bel).2)
  replace x0 := (HX.out w5 (HB3.out.trans (hw5.bel.mono HB3.out.size))).1
  replace x1 := (HX.out w5 (HB3.out.trans (hw5.bel.mono HB3.out.size))).2.1
  replace x2 := (HX.out w5 (HB3.out.trans (hw5.bel.mono HB3.out.size))).2.2
  obtain ⟨la, lc, rfl⟩ := hr5.at_.form
  have HL5 := HoldT.mk (And.intro hw5 (And.intro (show p5 <= 160316 by omega) hr5))
  clear hpost hw5 hp5 hr5 hT5 hu5 hq5 HU HL4
  obtain ⟨ln5, hln5⟩ : ∃ q, q = (listE false f t most o).length := ⟨_, rfl⟩
  rw [<- hln5]
  have HLN5 := HoldT.mk hln5
  clear hln5
  go_wp2_with fail
  refine HD.out.mono ?_
  intro e w6 hpost
  obtain ⟨sv6, H6, S6, p6, rfl, hw6, hp6, hr6, hT6, hu6, _⟩ := HL5.out.1.ranged hpost
  have hq6 := HL5.out.2.1
  have hr56 := HL5.out.2.2.turn hT6 HL5.out.1.pg.noU
  have HF := HoldT.mk (hw6.first (by omega) (HYF.out w6 hw6.bel).1 (HYF.out w6 hw6.bel).2)
  replace x0 := (HX.out w6 (HB3.out.trans (hw6.bel.mono HB3.out.size))).1
  replace x1 := (HX.out w6 (HB3.out.trans (hw6.bel.mono HB3.out.size))).2.1
  replace x2 := (HX.out w6 (HB3.out.trans (hw6.bel.mono HB3.out.size))).2.2
  obtain ⟨lb, lbc, rfl⟩ := hr6.at_.form
  have HL6 := HoldT.mk (And.intro hw6 (And.intro (show p6 <= 160632 by omega) (And.intro hr56 hr6)))
  clear hpost hw6 hp6 hr6 hT6 hu6 hq6 hr56 HD HL5
  obtain ⟨ln6, hln6⟩ : ∃ q, q = (listE true f t most o).length := ⟨_, rfl⟩
  rw [<- hln6]
  have HLN6 := HoldT.mk hln6
  clear hln6
  go_wp2_with fail
  refine HF.out.mono ?_
  intro e w7 hpost
  obtain ⟨ka7, kn7, kc7, va7, vn7, vc7, H7, S7, p7, rfl, hx7, hw7, hp7, hT7, hu7⟩ := HL6.out.1.firsted hpost
  have hq7 := HL6.out.2.1
  have h57 := HL6.out.2.2.1.turn hT7 HL6.out.1.pg.noU
  have h67 := HL6.out.2.2.2.turn hT7 HL6.out.1.pg.noU
  have HL7 := HoldT.mk (And.intro hw7 (And.intro h57 (And.intro h67 hx7)))
  clear hpost hx7 hw7 hp7 hT7 hu7 hq7 h57 h67 HF HL6 x0 x1 x2
  obtain ⟨cb, hcb⟩ : ∃ cb, cb = w7.heap.size := ⟨_, rfl⟩
  obtain ⟨w8, hw8⟩ : ∃ w8, w8 = w7.alloc (.cells #[.slice ka7 kn7 kc7, .slice va7 vn7 vc7] 42) := ⟨_, rfl⟩
  have hb8 : Below w7.heap.size w7 w8 := by rw [hw8]; exact (Below.refl _ w7).alloc (Nat.le_refl _) _
  have hbc : w8.heap[cb]? = some (.cells #[.slice ka7 kn7 kc7, .slice va7 vn7 vc7] 42 (0, 0)) := by rw [hw8, hcb]; exact heap_alloc_new w7 _
  have hb78 := (HL7.out.1.bel.trans (hb8.mono HL7.out.1.bel.size))
  have HB8 := HoldT.mk (And.intro hb78 (And.intro hbc hb8))
  have HW8 := HoldT.mk (And.intro hcb hw8)
  have hw7 := HL7.out.1.low
  have HES := HoldT.mk hw7.2.2.1
  have HRG := HoldT.mk (ref_Range (most := 1) (back := false) (HL7.out.1.map.below hb8) ((HH.out.from_.mono RY_mono (cle_below (HWB.out.trans (hb78.mono HWB.out.size))))) ((HH.out.to_.mono RY_mono (cle_below (HWB.out.trans (hb78.mono HWB.out.size))))) HES.out)
  obtain ⟨x0, x1, _⟩ := HX.out w8 (HB3.out.trans (hb78.mono HB3.out.size))
  clear hb8 hbc hb78 hcb hw8 hw7
  go_upto_region 9 with (fail)
  rw [<- HW8.out.1, <- HW8.out.2]
  clear HW8
  go_wp2_with fail
  refine HRG.out.mono ?_
  rintro e w9 ⟨sv9, rfl, hg9⟩
  have HG9 := HoldT.mk (show Got (cfU w9) w8 w9 sv9 (listE false f t 1 o) from hg9)
  have HB9 := HoldT.mk (HB3.out.trans ((HB8.out.1.trans (hg9.bel.mono HB8.out.1.size)).mono HB3.out.size))
  have HC9 := HoldT.mk (kept HB8.out.2.1 hg9.bel)
  have HB79 := HoldT.mk (HB8.out.2.2.trans (hg9.bel.mono HB8.out.2.2.size))
  have hy9 : ∀ y, (listE false f t 1 o).head? = some y -> YAt (cfU w9) (.slice ka7 kn7 kc7) y.1 := fun y e => (HL7.out.2.2.2 y e).1.mono RY_mono (cfU_below (HB8.out.2.2.trans (hg9.bel.mono HB8.out.2.2.size)))
  have HY9 := HoldT.mk hy9
  obtain ⟨e1, he1⟩ : ∃ e1, e1 = listE false f t 1 o := ⟨_, rfl⟩
  rw [<- he1] at HG9 HY9 |-
  have HE1 := HoldT.mk he1
  obtain ⟨s9, hs9⟩ := HG9.out.row
  obtain ⟨fa9, fc9, rfl⟩ := hs9.shape
  have HOK := HoldT.mk (And.intro HWB.out HL7.out)
  clear hg9 hy9 he1 hs9 x0 x1 HRG
  go_upto_region 10 with (fail)
  have HLEN := HoldT.mk (show e1.length <= 1000000 by
   rw [HE1.out]
   exact ask_len HES.out)
  cases e1
  case' nil =>
   simp only [List.length_nil, List.head?_nil, Option.isSome_none]
   refine wp_region_grow (by kernel_rfl) (by kernel_rfl) ?_
   repeat (go_big_quiet_step (fail))
   refine wpQuiet_nil ?_
   rintro ⟨wz, hbz⟩
   simp only
   have HZ := HoldT.mk hbz
   clear hbz
   go_upto_region 12 with (fail)
  case' cons y l1 =>
   obtain ⟨b, off, xa, xc, ya, yc, rfl, z0, _, hk, _⟩ := row_at (i := 0) (HG9.out.sat (Below.refl _ _) (fun _ _ _ h => h)) rfl
   have hyk := HY9.out y rfl
   have HS : HoldT (∀ e : Grow w9, Calls Tryz.prog 16 #[.slice ka7 kn7 kc7, .slice xa y.1.length xc] e.val fun r w' => r = .returned (.bool true) /\ ∃ e2 : Grow w9, w' = e2.val) := ⟨fun e => Calls.grow (fun e => by
    have hu := cfU_below e.property
    have h := Same4_any y.1 y.1 _ _ e.val (ybytes (hyk.mono RY_mono hu)) (ybytes (hk.mono RY_mono hu))
    rw [sameY_yes rfl] at h
    exact h) e⟩
   obtain ⟨yl, hyl⟩ : ∃ n, n = y.1.length := ⟨_, rfl⟩
   rw [<- hyl] at z0 HS
   have hc9 := HC9.out
   have z1 : w9.cell? ⟨cb, 0, none⟩ = some (.slice ka7 kn7 kc7) := by simp [World.cell?, hc9]
   have g0 := Grow.cell z0
   have g1 := Grow.cell z1
   obtain ⟨n9, hn9⟩ : ∃ n, n = (y :: l1).length := ⟨_, rfl⟩
   have hn1 : 1 <= n9 := by rw [hn9, List.length_cons]; omega
   have hn2 : n9 <= 1000000 := by rw [hn9]; exact HLEN.out
   rw [<- hn9]
   have b0 : decide (0 < (n9 : Int)) = true := decide_eq_true (by omega)
   have b2 : decide (0 < n9) = true := decide_eq_true (by omega)
   have b3 : (true != true) = false := rfl
   simp only [List.head?_cons, Option.isSome_some]
   simp only [Nat.zero_mul, Nat.add_zero] at g0
   clear z0 z1 hk hyk hyl hc9 hn9
   refine wp_region_grow (by kernel_rfl) (by kernel_rfl) ?_
   repeat (go_big_quiet_step (with_reducible exact HS.out _))
   refine wpQuiet_nil ?_
   rintro ⟨wz, hbz⟩
   simp only
   have HZ := HoldT.mk hbz
   clear hbz g0 g1 HS
   go_upto_region 12 with (fail)
  all_goals
   have HTZ := HoldT.mk (HB79.out.trans (HZ.out.mono HB79.out.size))
   have HBZ := HoldT.mk (HB9.out.trans (HZ.out.mono HB9.out.size))
   have HWZ := HoldT.mk (HB1.out.1.trans (HBZ.out.mono HB1.out.1.size))
   have HKZ : HoldT (∀ wx : World, Below wz.heap.size wz wx -> ∀ b, b = q -> wx.heap[b]? = wz.heap[b]?) := ⟨fun wx hz b hb => hz.block b (by rw [hb]; have h1 := heap_lt HB1.out.2; have h2 := HBZ.out.size; omega)⟩
   obtain ⟨x0, x1, x2⟩ := HX.out wz HBZ.out
   have g0 := KeepS.cell (P := fun b => b = q) x0 rfl
   have g1 := KeepS.cell (P := fun b => b = q) x1 rfl
   have g2 := KeepS.cell (P := fun b => b = q) x2 rfl
   clear x0 x1 x2
   refine wp_region_mixC (KeepSC (fun b => b = q) wz) 25 rfl (by kernel_rfl) ?_
   have HD0 := HoldT.mk ((Below.refl wz.heap.size wz).drew)
   generalize wz.drew = v0 at HD0 |-
   refine mixl_seg (by kernel_rfl) (fun _ _ d _ _ h => by cases d <;> exact h) [0, 2, 3, 4, 5, 6, 7, 8] [_, _, _, _, _, _, _, _] 17 25 rfl _ _ _ rfl (by kernel_rfl) (keepSC (HKZ.out _ HD0.out)) ?_
   repeat (go_big_quiet_step (fail))
   refine wpQuiet_nil ?_
   have HP1a := HoldT.mk (law_plain ((HL7.out.2.1.below (HTZ.out.trans (HD0.out.mono HTZ.out.size))).at_) (by rw [<- HLN5.out]; rw [HLN5.out]; exact ask_len HES.out))
   rw [<- HLN5.out] at HP1a
   refine mixl_act (i := 1) rfl (by kernel_rfl) (keepSC (HKZ.out _ HD0.out)) rfl (fun K hK => ?_)
   go_wp2_with fail
   refine HP1a.out.mono ?_
   rintro e v1a ⟨sv1a, rfl, hg1a⟩
   obtain ⟨cs1a, ho1a⟩ := hg1a.row
   obtain ⟨a1a, c1a, rfl⟩ := ho1a.shape
   rw [<- HLN5.out] at hg1a |-
   have HG1a := HoldT.mk hg1a
   have HD1a := HoldT.mk (HD0.out.trans (hg1a.bel.mono HD0.out.size))
   clear hg1a ho1a HP1a
   simp only
   go_wp2_with fail
   have HP1b := HoldT.mk (ref_Range (most := most) (back := false) (HL7.out.1.map.below (HTZ.out.trans (HD1a.out.mono HTZ.out.size))) (HH.out.from_.mono RY_mono (cle_below (HWZ.out.trans (HD1a.out.mono HWZ.out.size)))) (HH.out.to_.mono RY_mono (cle_below (HWZ.out.trans (HD1a.out.mono HWZ.out.size)))) HES.out)
   refine mixl_act (i := 9) rfl (by kernel_rfl) (keepSC (HKZ.out _ HD1a.out)) rfl (fun K hK => ?_)
   go_wp2_with fail
   refine HP1b.out.mono ?_
   rintro e v1b ⟨sv1b, rfl, hg1b⟩
   replace hg1b : Got (cfU v1b) v1a v1b sv1b (listE false f t most o) := hg1b
   obtain ⟨cs1b, ho1b⟩ := hg1b.row
   obtain ⟨a1b, c1b, rfl⟩ := ho1b.shape
   rw [<- HLN5.out] at hg1b |-
   have HG1b := HoldT.mk hg1b
   have HD1b := HoldT.mk (HD1a.out.trans (hg1b.bel.mono HD1a.out.size))
   clear hg1b ho1b HP1b
   simp only
   go_wp2_with fail
   have hs1 := ref_Same (HG1a.out.sat HG1b.out.bel (cfU_below (HG1a.out.bel.trans (HG1b.out.bel.mono HG1a.out.bel.size)))) (HG1b.out.sat (Below.refl _ _) (fun _ _ _ h => h)) (ask_len HES.out) (ask_len HES.out)
   rw [sameE_yes rfl] at hs1
   have HS1 := HoldT.mk hs1
   refine mixl_act (i := 10) rfl (by kernel_rfl) (keepSC (HKZ.out _ HD1b.out)) rfl (fun K hK => ?_)
   go_wp2_with fail
   refine HS1.out.mono ?_
   rintro e v1c ⟨rfl, hb1⟩
   have HD1c := HoldT.mk (HD1b.out.trans (hb1.mono HD1b.out.size))
   clear hb1 hs1 HS1
   simp only
   go_wp2_with fail
   refine mixl_seg (by kernel_rfl) (fun _ _ d _ _ h => by cases d <;> exact h) [11, 12, 14, 15, 16, 17, 18, 19, 20] [_, _, _, _, _, _, _, _, _] 5 14 rfl _ _ _ rfl (by kernel_rfl) (keepSC (HKZ.out _ HD1c.out)) ?_
   repeat (go_big_quiet_step (fail))
   refine wpQuiet_nil ?_
   have HP2a := HoldT.mk (law_plain ((HL7.out.2.2.1.below (HTZ.out.trans (HD1c.out.mono HTZ.out.size))).at_) (by rw [<- HLN6.out]; rw [HLN6.out]; exact ask_len HES.out))
   rw [<- HLN6.out] at HP2a
   refine mixl_act (i := 13) rfl (by kernel_rfl) (keepSC (HKZ.out _ HD1c.out)) rfl (fun K hK => ?_)
   go_wp2_with fail
   refine HP2a.out.mono ?_
   rintro e v2a ⟨sv2a, rfl, hg2a⟩
   obtain ⟨cs2a, ho2a⟩ := hg2a.row
   obtain ⟨a2a, c2a, rfl⟩ := ho2a.shape
   rw [<- HLN6.out] at hg2a |-
   have HG2a := HoldT.mk hg2a
   have HD2a := HoldT.mk (HD1c.out.trans (hg2a.bel.mono HD1c.out.size))
   clear hg2a ho2a HP2a
   simp only
   go_wp2_with fail
   have HP2b := HoldT.mk (ref_Range (most := most) (back := true) (HL7.out.1.map.below (HTZ.out.trans (HD2a.out.mono HTZ.out.size))) (HH.out.from_.mono RY_mono (cle_below (HWZ.out.trans (HD2a.out.mono HWZ.out.size)))) (HH.out.to_.mono RY_mono (cle_below (HWZ.out.trans (HD2a.out.mono HWZ.out.size)))) HES.out)
   refine mixl_act (i := 21) rfl (by kernel_rfl) (keepSC (HKZ.out _ HD2a.out)) rfl (fun K hK => ?_)
   go_wp2_with fail
   refine HP2b.out.mono ?_
   rintro e v2b ⟨sv2b, rfl, hg2b⟩
   replace hg2b : Got (cfU v2b) v2a v2b sv2b (listE true f t most o) := hg2b
   obtain ⟨cs2b, ho2b⟩ := hg2b.row
   obtain ⟨a2b, c2b, rfl⟩ := ho2b.shape
   rw [<- HLN6.out] at hg2b |-
   have HG2b := HoldT.mk hg2b
   have HD2b := HoldT.mk (HD2a.out.trans (hg2b.bel.mono HD2a.out.size))
   clear hg2b ho2b HP2b
   simp only
   go_wp2_with fail
   have hs2 := ref_Same (HG2a.out.sat HG2b.out.bel (cfU_below (HG2a.out.bel.trans (HG2b.out.bel.mono HG2a.out.bel.size)))) (HG2b.out.sat (Below.refl _ _) (fun _ _ _ h => h)) (ask_len HES.out) (ask_len HES.out)
   rw [sameE_yes rfl] at hs2
   have HS2 := HoldT.mk hs2
   refine mixl_act (i := 22) rfl (by kernel_rfl) (keepSC (HKZ.out _ HD2b.out)) rfl (fun K hK => ?_)
   go_wp2_with fail
   refine HS2.out.mono ?_
   rintro e v2c ⟨rfl, hb2⟩
   have HD2c := HoldT.mk (HD2b.out.trans (hb2.mono HD2b.out.size))
   clear hb2 hs2 HS2
   simp only
   go_wp2_with fail
   refine mixl_seg (by kernel_rfl) (fun _ _ d _ _ h => by cases d <;> exact h) [23, 24] [_, _] 0 2 rfl _ _ _ rfl (by kernel_rfl) (keepSC (HKZ.out _ HD2c.out)) ?_
   repeat (go_big_quiet_step (fail))
   refine wpQuiet_nil ?_
   refine mix_done (by kernel_rfl) (keepSC (HKZ.out _ HD2c.out)) ?_
   clear g0 g1 g2
   go_wp2_with fail
   go_ret
   exact ⟨rfl, HWZ.out.trans (HD2c.out.mono HWZ.out.size)⟩
end Go.Proofs.YtmiphphombkpdaaGreat
namespace Go.Proofs.YtmiphphombkpdaaGreat
open Go.ChangeShapes Go.WideShapes Go.ChangeAt Go.RowKit
theorem addr_add (b off k : Nat) : (⟨b, off, none⟩ : Addr).add k = ⟨b, off + k, none⟩ := by
 unfold Addr.add; split <;> simp_all
theorem cell_spot {W : World} {b off : Nat} {spot} (h0 : ∃ u, W.cell? ((⟨b, off, spot⟩ : Addr).add 0) = some u) : spot = none := by
 obtain ⟨u, hu⟩ := h0
 have := World.cell?_spot hu; simpa [Addr.add] using this
instance : Inhabited JV := ⟨.mk 0 0 ⟨#[]⟩ [] []⟩
theorem okWide_agg {P : Program} {w : World} {r : Reach} {base : Nat} {t : TypeId} {v : Value} {fs : Array Field} (ht : P.underlying t = some (.struct fs)) (h : Value.okWide P w r base t v) : ∃ cs, v = .agg cs := by
 obtain ⟨cs, e, _⟩ := okWide_struct ht h
 exact ⟨cs, e⟩
end Go.Proofs.YtmiphphombkpdaaGreat
namespace Go.Proofs.YtmiphphombkpdaaGreat
open Go.ChangeShapes Go.WideShapes Go.ChangeAt Go.RowKit
theorem slice_of_trod {α : Type} {n : Nat} {R : Rep α} {T Ts : TypeId} (hTs : Tryz.prog.underlying Ts = some (.slice T)) (hc : Tryz.prog.cellsOf T = n) (hn : 0 < n) {H : Type} {enc : TypeId × Value -> H} {W : World}
  (hel : ∀ fuel cs x, DataW.trod enc Tryz.prog W 0 (fun _ => true) true fuel T cs = some x -> cs.length = n -> ∃ e : α, R (cf W) e cs) {fuel : Nat} {c : Value} {x : DataW H × List MemPlace}
  (h : DataW.trod enc Tryz.prog W 0 (fun _ => true) true fuel Ts [c] = some x) : ∃ l : List α, SAt n R (cf W) c l := by
 rcases DataW.trod_slice hTs h with ⟨hcs, _⟩ | ⟨a, len, cap, elems, rest, n', hn', hcs, _, _, hl, hm, hle, hel2, _⟩
 ·cases hcs
  exact ⟨[], SAt.none _ _ _⟩
 ·cases hcs
  have hx : ∀ i, i < len -> ∃ p : Option (α × List Value), ∃ e d, p = some (e, d) /\ d.length = n /\ (∀ (j : Nat) u, d[j]? = some u -> W.cell? (a.add (i * n + j)) = some u) /\ R (cf W) e d := by
   intro i hil
   have h1 := hel2 i hil
   rw [List.getElem?_eq_getElem (by omega), Option.bind_eq_some_iff] at h1
   obtain ⟨cs', hc', ht⟩ := h1
   rw [hc] at hc'
   obtain ⟨_, hcl, hat⟩ := World.cells?_some hc'
   obtain ⟨e, he⟩ := hel _ _ _ ht hcl
   refine ⟨some (e, cs'), e, cs', rfl, hcl, fun j u hu => ?_, he⟩
   have hj : j < n := by rw [<- hcl]; exact (List.getElem?_eq_some_iff.1 hu).1
   have := hat j hj
   rw [hu] at this
   simpa [Go.Deep.add_add] using this
  obtain ⟨f, hf⟩ := Go.Deep.choose_lt hx
  have hget : ∀ i, i < len -> ∃ e d, f i = some (e, d) /\ d.length = n /\ (∀ (j : Nat) u, d[j]? = some u -> W.cell? (a.add (i * n + j)) = some u) /\ R (cf W) e d := hf
  have hlist : ∀ m, m <= len -> ∃ l : List α, l.length = m /\ ∀ i e, l[i]? = some e -> ∃ d, f i = some (e, d) := by
   intro m
   induction m with
   | zero => intro _; exact ⟨[], rfl, fun i e h => by simp at h⟩
   | succ m ih =>
    intro hm2
    obtain ⟨l, hl1, hl2⟩ := ih (by omega)
    obtain ⟨e, d, hfe, _⟩ := hget m (by omega)
    refine ⟨l ++ [e], by simp [hl1], fun i y hy => ?_⟩
    by_cases hi : i < l.length
    ·rw [List.getElem?_append_left hi] at hy; exact hl2 i y hy
    ·rw [List.getElem?_append_right (by omega)] at hy
     cases he : i - l.length with
     | zero =>
      rw [he] at hy
      obtain rfl : e = y := by simpa using hy
      exact ⟨d, by rw [show i = m by omega]; exact hfe⟩
     | succ q => rw [he] at hy; simp at hy
  obtain ⟨l, hl1, hl2⟩ := hlist len (Nat.le_refl _)
  refine ⟨l, some a, cap, by rw [hl1], by omega, by unfold maxLen at hm; omega, fun i e he => ?_⟩
  have hil : i < len := by rw [<- hl1]; exact (List.getElem?_eq_some_iff.1 he).1
  obtain ⟨e2, d, h1, h2, h3, h4⟩ := hget i hil
  obtain ⟨d', h5⟩ := hl2 i e he
  rw [h1] at h5
  obtain ⟨rfl, rfl⟩ : e2 = e /\ d = d' := by simpa using h5
  obtain ⟨b, off, spot⟩ := a
  obtain ⟨e0, d0, _, k2, k3, _⟩ := hget 0 (by omega)
  have hs := cell_spot ⟨_, by have := k3 0 _ (List.getElem?_eq_getElem (by omega : 0 < d0.length)); simpa using this⟩
  subst hs
  refine ⟨b, off, d, rfl, h2, fun j u hu => ?_, h4⟩
  have := h3 j u hu
  rw [addr_add] at this
  unfold cf; rw [Nat.add_assoc]; exact this
set_option maxRecDepth 100000 in
theorem slice_of_Trod {α : Type} {n : Nat} {R : Rep α} {T Ts : TypeId} (hTs : Tryz.prog.underlying Ts = some (.slice T)) (hc : Tryz.prog.cellsOf T = n) (hn : 0 < n) {H : Type} {enc : TypeId × Value -> H} {W : World}
  (hel : ∀ fuel cs x, DataW.trod enc Tryz.prog W 0 (fun _ => true) true fuel T cs = some x -> cs.length = n -> ∃ e : α, R (cf W) e cs) {base : Nat} {v : Value} {d : DataW H} {p : List MemPlace} (hv : Value.okWide Tryz.prog W .any base Ts v)
  (h : DataW.Trod enc Tryz.prog W 0 (fun _ => true) true Ts v d p) : ∃ l : List α, SAt n R (cf W) v l := by
 obtain ⟨a, len, cap, rfl⟩ := okWide_slice hTs hv
 obtain ⟨fuel, hf⟩ := h
 exact slice_of_trod hTs hc hn hel (by simpa [Value.cells] using hf)
end Go.Proofs.YtmiphphombkpdaaGreat
namespace Go.Proofs.YtmiphphombkpdaaGreat
open Go.Shelf
open Go.ChangeShapes Go.WideShapes Go.ChangeAt Go.RowKit
theorem Tryz.own : ownKnob Tryz.prog.godebug = none := by kernel_rfl
theorem Tryz.laidOut : laidOutB Tryz.prog = true := by kernel_rfl
theorem byteY_of_trod {H : Type} {enc : TypeId × Value -> H} {W : World} (fuel : Nat) (cs : List Value) (x : DataW H × List MemPlace)
  (h : DataW.trod enc Tryz.prog W 0 (fun _ => true) true fuel 5 cs = some x) (_ : cs.length = 1) : ∃ c : UInt8, RY (cf W) c cs := by
 obtain ⟨m, rfl, _, hw⟩ := DataW.trod_int Tryz.underlying5 h
 have hb : 0 <= m /\ m <= 255 := by
  simp [Lit.wf, IntKind.min, IntKind.max, IntKind.bits, IntKind.signed] at hw
  omega
 exact ⟨UInt8.ofNat m.toNat, by unfold RY; rw [UInt8.toNat_ofNat']; congr 2; omega⟩
set_option maxRecDepth 100000 in
theorem yat_of_trod {H : Type} {enc : TypeId × Value -> H} {W : World} {fuel : Nat} {c : Value} {x : DataW H × List MemPlace}
  (h : DataW.trod enc Tryz.prog W 0 (fun _ => true) true fuel 23 [c] = some x) : ∃ l, YAt (cf W) c l :=
 slice_of_trod (n := 1) (R := RY) Tryz.underlying23 (by kernel_rfl) (by decide) (fun fuel cs x h hl => byteY_of_trod fuel cs x h hl) h
theorem list4T {α : Type} {l : List α} (h : l.length = 4) : ∃ a b c d, l = [a, b, c, d] := by
 match l, h with
 | [a, b, c, d], _ => exact ⟨a, b, c, d, rfl⟩
theorem list3T {α : Type} {l : List α} (h : l.length = 3) : ∃ a b c, l = [a, b, c] := by
 match l, h with
 | [a, b, c], _ => exact ⟨a, b, c, rfl⟩
set_option maxRecDepth 100000 in
theorem lop_of_trod {H : Type} {enc : TypeId × Value -> H} {W : World} (fuel : Nat) (cs : List Value) (x : DataW H × List MemPlace)
  (h : DataW.trod enc Tryz.prog W 0 (fun _ => true) true fuel 65 cs = some x) (_ : cs.length = 4) : ∃ e : LOp, ROp12 (cf W) e cs := by
 obtain ⟨xs, n, hfu, _, hlen, hxl, hg⟩ := DataW.trod_struct Tryz.underlying65 h
 rw [show Tryz.prog.cellsOf 65 = 4 by kernel_rfl] at hlen
 have hI : Tryz.prog.cellsOf 3 = 1 := by kernel_rfl
 have hU : Tryz.prog.cellsOf 5 = 1 := by kernel_rfl
 have hB : Tryz.prog.cellsOf 4 = 1 := by kernel_rfl
 obtain ⟨c0, c1, c2, c3, rfl⟩ := list4T hlen
 obtain ⟨y0, y1, y2, y3, rfl⟩ := list4T hxl
 have g0 : DataW.trod enc Tryz.prog W 0 (fun _ => true) true n 5 [c0] = some y0 := by have := hg 0 _ rfl; simpa [hI, hU, hB] using this
 have g1 : DataW.trod enc Tryz.prog W 0 (fun _ => true) true n 3 [c1] = some y1 := by have := hg 1 _ rfl; simpa [hI, hU, hB] using this
 have g2 : DataW.trod enc Tryz.prog W 0 (fun _ => true) true n 3 [c2] = some y2 := by have := hg 2 _ rfl; simpa [hI, hU, hB] using this
 have g3 : DataW.trod enc Tryz.prog W 0 (fun _ => true) true n 4 [c3] = some y3 := by have := hg 3 _ rfl; simpa [hI, hU, hB] using this
 obtain ⟨b, e0⟩ := byteY_of_trod _ _ _ g0 rfl
 obtain ⟨m1, e1, _, _⟩ := DataW.trod_int Tryz.underlying3 g1
 obtain ⟨m2, e2, _, _⟩ := DataW.trod_int Tryz.underlying3 g2
 obtain ⟨f, e3, _⟩ := DataW.trod_bool Tryz.underlying4 g3
 have e0' : [c0] = [.int .u8 (b.toNat : Int)] := e0
 obtain rfl := (List.cons.inj e0').1
 obtain rfl := (List.cons.inj e1).1
 obtain rfl := (List.cons.inj e2).1
 obtain rfl := (List.cons.inj e3).1
 exact ⟨(b, m1, m2, f), rfl⟩
set_option maxRecDepth 100000 in
theorem lops_of_Trod {H : Type} {enc : TypeId × Value -> H} {W : World} {base : Nat} {v : Value} {d : DataW H} {p : List MemPlace} (hv : Value.okWide Tryz.prog W .any base 22 v)
  (h : DataW.Trod enc Tryz.prog W 0 (fun _ => true) true 22 v d p) : ∃ (l : List LOp) (a : Option Addr) (n c : Nat), v = .slice a n c /\ n = l.length /\ SAt 4 ROp12 (cf W) (.slice a n c) l := by
 obtain ⟨l, hl⟩ := slice_of_Trod Tryz.underlying22 (by kernel_rfl) (by decide) (fun fuel cs x h hl => lop_of_trod fuel cs x h hl) hv h
 obtain ⟨a, c, rfl⟩ := hl.form
 exact ⟨l, a, _, c, rfl, rfl, hl⟩
set_option maxRecDepth 100000 in
theorem range_of_Trod {H : Type} {enc : TypeId × Value -> H} {W : World} {base : Nat} {v : Value} {d : DataW H} {p : List MemPlace} (hv : Value.okWide Tryz.prog W .any base 25 v)
  (h : DataW.Trod enc Tryz.prog W 0 (fun _ => true) true 25 v d p) : ∃ (f t : Bts) (fa ta : Option Addr) (fl fc tl tc : Nat) (m : Int), v = .agg #[.slice fa fl fc, .slice ta tl tc, .int .i64 m] /\ (Lit.int .i64 m).wf = true /\ fl = f.length /\ tl = t.length /\ YAt (cf W) (.slice fa fl fc) f /\ YAt (cf W) (.slice ta tl tc) t := by
 have hv2 : ∃ cs, v = .agg cs := okWide_agg Tryz.underlying25 hv
 clear hv
 obtain ⟨cs, rfl⟩ := hv2
 obtain ⟨fuel, hf⟩ := h
 obtain ⟨xs, n, hfu, _, hlen, hxl, hg⟩ := DataW.trod_struct Tryz.underlying25 hf
 rw [show Tryz.prog.cellsOf 25 = 3 by kernel_rfl] at hlen
 have hcl : (Value.agg cs).cells = cs := by simp [Value.cells]
 rw [hcl] at hlen hg
 have hI : Tryz.prog.cellsOf 3 = 1 := by kernel_rfl
 have hU : Tryz.prog.cellsOf 23 = 1 := by kernel_rfl
 obtain ⟨c0, c1, c2, hc⟩ := list3T hlen
 obtain ⟨y0, y1, y2, rfl⟩ := list3T hxl
 rw [hc] at hg
 have g0 : DataW.trod enc Tryz.prog W 0 (fun _ => true) true n 23 [c0] = some y0 := by have := hg 0 _ rfl; simpa [hI, hU] using this
 have g1 : DataW.trod enc Tryz.prog W 0 (fun _ => true) true n 23 [c1] = some y1 := by have := hg 1 _ rfl; simpa [hI, hU] using this
 have g2 : DataW.trod enc Tryz.prog W 0 (fun _ => true) true n 3 [c2] = some y2 := by have := hg 2 _ rfl; simpa [hI, hU] using this
 obtain ⟨f, hf0⟩ := yat_of_trod g0
 obtain ⟨t, ht0⟩ := yat_of_trod g1
 obtain ⟨m, e2, _, hw⟩ := DataW.trod_int Tryz.underlying3 g2
 obtain rfl := (List.cons.inj e2).1
 obtain ⟨fa, fc, rfl⟩ := hf0.form
 obtain ⟨ta, tc, rfl⟩ := ht0.form
 have e : cs = #[.slice fa f.length fc, .slice ta t.length tc, .int .i64 m] := by
  cases cs; simp only at hc; rw [hc]
 exact ⟨f, t, fa, ta, _, fc, _, tc, m, by rw [e], hw, rfl, rfl, hf0, ht0⟩
end Go.Proofs.YtmiphphombkpdaaGreat
namespace Go.Proofs.YtmiphphombkpdaaGreat
open Go.ChangeShapes Go.WideShapes Go.ChangeAt Go.RowKit
set_option maxRecDepth 100000 in
set_option maxHeartbeats 2000000 in
theorem WalkRanges.lifted (os : Os) (started : os.Started) (H : Type) (enc : TypeId × Value -> H) :
  ReturnsInHanded {} Tryz.checked os 5 .any (Rows.walkRangesSpec.pre6 enc Tryz.prog Tryz.f5 Rows.walkRangesRow.domain false) (Rows.walkRangesSpec.post enc Tryz.prog Tryz.f5 false true false false) := by
 refine returnsInHanded_of_change (C := Tryz.checked) Tryz.own started (by kernel_rfl) Tryz.func5
  (ChangeSpec.witness6 (enc := enc) (C := Tryz.checked) false ⟨#[], #[.slice none 0 0, .agg #[.slice none 0 0, .slice none 0 0, .int .i64 0]], []⟩ 8 (by kernel_rfl) (by kernel_rfl) (by kernel_rfl) (by kernel_rfl)) ?_
 intro W base args ds gs before hval0 hW hcnd _
 have hval : ∀ (j : Nat) t v, Tryz.f5.params[j]? = some t -> args[j]? = some v -> Value.okWide Tryz.prog W .any base t v := hval0
 have hW' := hW
 obtain ⟨p, q, hA0, hV, rfl, hfz, hnd⟩ := hW
 have hA : DataW.TrodAll enc Tryz.prog W 0 (fun _ => true) true Tryz.f5.params.toList args.toList ds p := hA0
 rw [Tryz.params5] at hA hval
 obtain ⟨a0, vs0, d0, ds0, p0, q0, hargs, rfl, rfl, h0, r0⟩ := trodAll_cons hA
 obtain ⟨a1, vs1, d1, ds1, p1, q1, rfl, rfl, rfl, h1, r1⟩ := trodAll_cons r0
 obtain ⟨rfl, rfl, rfl⟩ := trodAll_nil r1
 obtain rfl : args = #[a0, a1] := by cases args; simp_all
 obtain ⟨rfl, rfl⟩ := trodVars_none hV
 have k0 := h0
 have lt0 : ∀ x ∈ p0, x.block < W.heap.size := by obtain ⟨m, hm⟩ := k0; exact DataW.trod_lt m _ _ _ hm
 obtain ⟨l, la, ln, lc, rfl, hln, hl⟩ := lops_of_Trod (hval 0 _ a0 rfl rfl) h0
 have k1 := h1
 have lt1 : ∀ x ∈ p1, x.block < W.heap.size := by obtain ⟨m, hm⟩ := k1; exact DataW.trod_lt m _ _ _ hm
 obtain ⟨f, t, fa, ta, fl, fc, tl, tc, most, rfl, hmw, hfl, htl, hf, ht⟩ := range_of_Trod (hval 1 _ a1 rfl rfl) h1
 clear hA0 hval0
 refine (walkRanges_walk (W := W) (l := l) (f := f) (t := t) ⟨hl, hln, hf, ht⟩).mono fun e W' ⟨he, bel⟩ => ?_
 subst he
 exact ⟨_, rfl, _, _, _, [], _, [], hW', trodAll_mk1 (shut_bool Tryz.underlying4 _), (trodAll_cons_mk (Below.trod Tryz.laidOut (by kernel_rfl) (of_decide_eq_true (by kernel_rfl)) k0 bel lt0) (trodAll_cons_mk (Below.trod Tryz.laidOut (by kernel_rfl) (of_decide_eq_true (by kernel_rfl)) k1 bel lt1) trodAll_mk0)), rfl, bel.frame _, fun h => by cases h⟩
theorem WalkRanges.over : Rows.walkRangesRow.holds Tryz.pinned (OpenSpec.ofChange Rows.walkRangesSpec) :=
 OpenClaim.holds_of_wide 5 Tryz.f5 rfl rfl rfl rfl rfl rfl rfl ⟨rfl, rfl, rfl, rfl, rfl⟩ rfl rfl rfl rfl rfl (by kernel_rfl) Tryz.func5 (by kernel_rfl)
  (of_decide_eq_true (by kernel_rfl)) (by unfold Func.isWrapper; first | (rw [if_pos (by decide +kernel)]; kernel_rfl) | (rw [if_neg (by decide +kernel)]; exact ⟨rfl, rfl⟩))
  (fun os started H enc _ => WalkRanges.lifted os started H enc)
theorem walkRanges_holds : Rows.WalkRangesSaid := WalkRanges.over
#print axioms walkRanges_holds
end Go.Proofs.YtmiphphombkpdaaGreat
