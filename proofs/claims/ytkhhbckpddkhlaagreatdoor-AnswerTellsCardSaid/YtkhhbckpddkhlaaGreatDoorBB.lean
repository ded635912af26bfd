/- Answers: AnswerTells walked. (printed by genXBB.py) -/
import Derived.Test.YtkhhbckpddkhlaaGreatDoorAX
import Derived.Test.YtkhhbckpddkhlaaGreatDoorAY
namespace Go.Proofs.YtkhhbckpddkhlaaGreatDoor
open Go.Shelf Go.RowKit

theorem satD_two (w : World) (x y : DR) (dx dy : List Value) (T : TypeId) (hx : RD (cf w) x dx) (hy : RD (cf w) y dy) : SAt 6 RD (cf (w.alloc (.cells (dx ++ dy).toArray T))) (.slice (some ⟨w.heap.size, 0, none⟩) 2 2) [x, y] := by
  have h := heap_alloc_new w (.cells (dx ++ dy).toArray T)
  have hsx := rd_six hx
  have hsy := rd_six hy
  have hcell : ∀ (j : Nat), (w.alloc (.cells (dx ++ dy).toArray T)).cell? ⟨w.heap.size, j, none⟩ = (dx ++ dy)[j]? := fun j => by
    simp only [World.cell?]
    rw [h]
    simp
  have hcl : CLe (cf w) (cf (w.alloc (.cells (dx ++ dy).toArray T))) := cle_below ((Below.refl _ w).alloc (Nat.le_refl _) _)
  refine ⟨_, 2, rfl, Nat.le_refl _, by decide, fun i z hz => ?_⟩
  match i, hz with
  | 0, hz =>
    obtain rfl : x = z := by simpa using hz
    refine ⟨_, 0, dx, rfl, hsx, fun j u hu => ?_, RD_mono _ _ _ _ hcl hx⟩
    unfold cf
    have hj : j < dx.length := (List.getElem?_eq_some_iff.1 hu).1
    rw [hcell, List.getElem?_append_left (by omega)]
    simpa using hu
  | 1, hz =>
    obtain rfl : y = z := by simpa using hz
    refine ⟨_, 0, dy, rfl, hsy, fun j u hu => ?_, RD_mono _ _ _ _ hcl hy⟩
    unfold cf
    rw [hcell, List.getElem?_append_right (by omega), hsx, show 0 + 1 * 6 + j - 6 = j by omega]
    simpa using hu

set_option maxRecDepth 100000 in
set_option maxHeartbeats 32000000 in
theorem answerTells_walk (q : QR) (x y : DR) (d dx dy : List Value) (w : World) (hq : QAt (cf w) q d) (hx : RD (cf w) x dx) (hy : RD (cf w) y dy) (hT : Tabs w) :
    Calls Tryz.prog 4 #[.agg d.toArray, .agg dx.toArray, .agg dy.toArray] w fun e w' => e = .returned (.bool true) ∧ Below w.heap.size w w' := by
  have HQA := Hold.mk hq
  have HXA := Hold.mk hx
  have HYA := Hold.mk hy
  obtain ⟨k, n, t, na, nl, nc, ia, il, ic, sv, fv, rfl, hj, hs, hf⟩ := hq
  obtain ⟨sa, scap, rfl⟩ := hs.form
  obtain ⟨fa, fcap, rfl⟩ := hf.form
  obtain ⟨uk, un, ut, una, unl, unc, uia, uil, uic, rfl, _, _, hxj⟩ := hx
  obtain ⟨bk, bn, bt, bna, bnl, bnc, bia, bil, bic, rfl, _⟩ := hy
  have HXJ := Hold.mk hxj
  have HT := Hold.mk hT
  have H3 := Hold.mk (ThreeA.refl w #[.int .i64 k, .int .i64 n, .string t, .slice na nl nc, .slice ia il ic, .slice sa q.sort.length scap, .slice fa q.fields.length fcap, .int .i64 q.skip, .int .i64 q.lim] #[.string x.id, .int .i64 uk, .int .i64 un, .string ut, .slice una unl unc, .slice uia uil uic] #[.string y.id, .int .i64 bk, .int .i64 bn, .string bt, .slice bna bnl bnc, .slice bia bil bic] 28 47 47)
  obtain ⟨W, hW⟩ : ∃ W, W = (((w.alloc (.cells #[.int .i64 k, .int .i64 n, .string t, .slice na nl nc, .slice ia il ic, .slice sa q.sort.length scap, .slice fa q.fields.length fcap, .int .i64 q.skip, .int .i64 q.lim] 28)).alloc (.cells #[.string x.id, .int .i64 uk, .int .i64 un, .string ut, .slice una unl unc, .slice uia uil uic] 47)).alloc (.cells #[.string y.id, .int .i64 bk, .int .i64 bn, .string bt, .slice bna bnl bnc, .slice bia bil bic] 47)) := ⟨_, rfl⟩
  rw [← hW] at H3
  have HA := Hold.mk (awake16_any W (hT.below H3.out.bel))
  clear hj hs hf hT hxj
  go_enter Tryz.func4, Tryz.ntmps4
  go_upto_region 1 with (fail)
  rw [← hW]
  clear hW
  go_wp2_with fail
  refine HA.out.mono ?_
  rintro e w1 ⟨rfl, hb1⟩
  replace H3 := Hold.mk (H3.out.next hb1)
  clear hb1 HA
  obtain ⟨W2, hW2⟩ : ∃ W2, W2 = w1.alloc (.cells #[.string x.id, .int .i64 uk, .int .i64 un, .string ut, .slice una unl unc, .slice uia uil uic, .string y.id, .int .i64 bk, .int .i64 bn, .string bt, .slice bna bnl bnc, .slice bia bil bic] 47) := ⟨_, rfl⟩
  have hb2 : Below w1.heap.size w1 W2 := by rw [hW2]; exact (Below.refl _ w1).alloc (Nat.le_refl _) _
  have HS2 : Hold (SAt 6 RD (cf W2) (.slice (some ⟨w1.heap.size, 0, none⟩) 2 2) [x, y]) := ⟨by
    have h := satD_two w1 x y _ _ 47 (RD_mono _ _ _ _ (cle_below H3.out.bel) HXA.out) (RD_mono _ _ _ _ (cle_below H3.out.bel) HYA.out)
    rw [hW2]; exact h⟩
  have HF := Hold.mk (lfew_any q [x, y] _ _ W2 (HQA.out.mono ((cle_below H3.out.bel).trans (cle_below hb2))) HS2.out)
  obtain ⟨y0, y1, y2, y3, y4, y5, y6, y7, y8⟩ := cells9A H3.out.one
  obtain ⟨x0, x1, x2, x3, x4, x5⟩ := cells6D H3.out.two
  obtain ⟨z0, z1, z2, z3, z4, z5⟩ := cells6D H3.out.three
  go_wp2_with fail
  rw [← hW2]
  replace H3 := Hold.mk (H3.out.next hb2)
  clear hW2 hb2
  refine HF.out.mono ?_
  rintro e w2 ⟨fb, rfl, hfb, hb2⟩
  replace H3 := Hold.mk (H3.out.next hb2)
  have HFB := Hold.mk hfb
  clear hb2 hfb HF HS2 y0 y1 y2 y3 y4 y5 y6 y7 y8 x0 x1 x2 x3 x4 x5 z0 z1 z2 z3 z4 z5
  cases fb with
  | false =>
    have HA := Hold.mk (awake16_any w2 (HT.out.below H3.out.bel))
    go_wp2_with fail
    refine HA.out.mono ?_
    rintro e w3 ⟨rfl, hb3⟩
    have HBF := H3.out.bel.trans (hb3.mono H3.out.bel.size)
    clear hb3 HA
    go_wp2_with fail
    go_ret
    exact ⟨rfl, HBF⟩
  | true =>
    have HSM := Hold.mk (HFB.out rfl)
    have hsz : ∀ o ∈ q.sort, o.path.size ≤ 1000000 := fun o ho => by have := HSM.out.paths o ho; omega
    have hfz : ∀ p ∈ q.fields, p.size ≤ 1000000 := fun p hp => by have := HSM.out.parts p hp; omega
    have HSZ := Hold.mk hsz
    have HFZ := Hold.mk hfz
    have HSL : Hold (q.sort.length ≤ 1000000) := ⟨by have := HSM.out.sort; omega⟩
    clear hsz hfz
    obtain ⟨lt, hlt⟩ : ∃ lt, decide (docC q.sort x y < 0) = lt := ⟨_, rfl⟩
    have HLT := Hold.mk hlt
    obtain ⟨pv, hpv⟩ : ∃ pv, projF q.fields x.v = pv := ⟨_, rfl⟩
    have HPV := Hold.mk hpv
    clear hlt hpv
    go_upto_region 3 with (fail)
    obtain ⟨y0, y1, y2, y3, y4, y5, y6, y7, y8⟩ := cells9A H3.out.one
    obtain ⟨x0, x1, x2, x3, x4, x5⟩ := cells6D H3.out.two
    obtain ⟨z0, z1, z2, z3, z4, z5⟩ := cells6D H3.out.three
    have p0 := Grow.cell y0
    have p1 := Grow.cell y1
    have p2 := Grow.cell y2
    have p3 := Grow.cell y3
    have p4 := Grow.cell y4
    have p5 := Grow.cell y5
    have p6 := Grow.cell y6
    have p7 := Grow.cell y7
    have p8 := Grow.cell y8
    have r0 := Grow.cell x0
    have r1 := Grow.cell x1
    have r2 := Grow.cell x2
    have r3 := Grow.cell x3
    have r4 := Grow.cell x4
    have r5 := Grow.cell x5
    have s0 := Grow.cell z0
    have s1 := Grow.cell z1
    have s2 := Grow.cell z2
    have s3 := Grow.cell z3
    have s4 := Grow.cell z4
    have s5 := Grow.cell z5
    clear y0 y1 y2 y3 y4 y5 y6 y7 y8 x0 x1 x2 x3 x4 x5 z0 z1 z2 z3 z4 z5
    refine wp_region_mix 23 rfl (by kernel_rfl) ?_
    rintro w7 hb7
    refine mixl_seg (by kernel_rfl) (fun _ _ d _ _ h => by cases d <;> exact h) [0, 1, 2, 4, 6, 7] [_, _, _, _, _, _] 17 23 rfl _ _ _ rfl (by kernel_rfl) (growC hb7) ?_
    repeat (go_big_quiet_step (fail))
    refine wpQuiet_nil ?_
    have HG := Hold.mk hb7
    clear hb7
    refine mixl_act (i := 3) rfl (by kernel_rfl) (growC HG.out) rfl (fun K hK => ?_)
    have HC := Hold.mk (Less_any q x y _ _ _ w7 (HQA.out.mono ((cle_below H3.out.bel).trans (cle_below HG.out))) (RD_mono _ _ _ _ ((cle_below H3.out.bel).trans (cle_below HG.out)) HXA.out) (RD_mono _ _ _ _ ((cle_below H3.out.bel).trans (cle_below HG.out)) HYA.out) HSZ.out (HT.out.below (H3.out.bel.trans (HG.out.mono H3.out.bel.size))))
    rw [HLT.out] at HC
    go_wp2_with fail
    refine HC.out.mono ?_
    rintro e wn ⟨rfl, hbn⟩
    replace HG := Hold.mk (HG.out.trans (hbn.mono HG.out.size))
    clear hbn HC
    go_wp2_with fail
    refine mixl_act (i := 5) rfl (by kernel_rfl) (growC HG.out) rfl (fun K hK => ?_)
    have HC := Hold.mk (aplain_any q _ wn (HQA.out.mono ((cle_below H3.out.bel).trans (cle_below HG.out))) HSL.out)
    go_wp2_with fail
    refine HC.out.mono ?_
    rintro e wn ⟨d2, rfl, hq2, hbn⟩
    replace HG := Hold.mk (HG.out.trans (hbn.mono HG.out.size))
    have HC := Hold.mk (rqLess_any q x y d2 _ _ wn hq2 (RD_mono _ _ _ _ ((cle_below H3.out.bel).trans (cle_below HG.out)) HXA.out) (RD_mono _ _ _ _ ((cle_below H3.out.bel).trans (cle_below HG.out)) HYA.out) HSZ.out)
    rw [HLT.out] at HC
    clear hbn hq2
    go_wp2_with fail
    refine mixl_act (i := 8) rfl (by kernel_rfl) (growC HG.out) rfl (fun K hK => ?_)
    skip
    go_wp2_with fail
    refine HC.out.mono ?_
    rintro e wn ⟨rfl, hbn⟩
    replace HG := Hold.mk (HG.out.trans (hbn.mono HG.out.size))
    clear hbn HC
    go_wp2_with fail
    refine mixl_seg (by kernel_rfl) (fun _ _ d _ _ h => by cases d <;> exact h) [9, 10, 11, 12, 13, 15, 17, 18] [_, _, _, _, _, _, _, _] 6 14 rfl _ _ _ rfl (by kernel_rfl) (growC HG.out) ?_
    repeat (go_big_quiet_step (fail))
    refine wpQuiet_nil ?_
    clear p0 p1 p2 p3 p4 p5 p6 p7 p8 r0 r1 r2 r3 r4 r5 s0 s1 s2 s3 s4 s5
    refine mixl_act (i := 14) rfl (by kernel_rfl) (growC HG.out) rfl (fun K hK => ?_)
    have HC := Hold.mk (qProject_any (cf w) q _ x.v _ wn (HQA.out.mono ((cle_below H3.out.bel).trans (cle_below HG.out))) (((cle_below H3.out.bel).trans (cle_below HG.out)).trans (cle_cfU _)) HXJ.out HFZ.out (HT.out.below (H3.out.bel.trans (HG.out.mono H3.out.bel.size))))
    go_wp2_with fail
    refine HC.out.mono ?_
    rintro e wn ⟨gk, gn, gt, gna, gnl, gnc, gia, gil, gic, rfl, hg, hbn⟩
    rw [HPV.out] at hg
    have HJ1 := Hold.mk (hg.mono (cfV_cf2 (((cle_below H3.out.bel).trans (cle_below HG.out)).trans (cle_cfU _)) hbn))
    replace HG := Hold.mk (HG.out.trans (hbn.mono HG.out.size))
    clear hbn hg HC
    go_wp2_with fail
    refine mixl_act (i := 16) rfl (by kernel_rfl) (growC HG.out) rfl (fun K hK => ?_)
    have HC := Hold.mk (aplain_any q _ wn (HQA.out.mono ((cle_below H3.out.bel).trans (cle_below HG.out))) HSL.out)
    go_wp2_with fail
    refine HC.out.mono ?_
    rintro e wn ⟨d3, rfl, hq3, hbn⟩
    replace HG := Hold.mk (HG.out.trans (hbn.mono HG.out.size))
    have HQ3 := Hold.mk hq3
    replace HJ1 := Hold.mk (HJ1.out.mono (cle_below hbn))
    clear hbn hq3 HC
    go_wp2_with fail
    refine mixl_act (i := 19) rfl (by kernel_rfl) (growC HG.out) rfl (fun K hK => ?_)
    have HC := Hold.mk (rProject_any (cf w) q d3 x.v _ wn HQ3.out (((cle_below H3.out.bel).trans (cle_below HG.out)).trans (cle_cfU _)) HXJ.out HFZ.out)
    go_wp2_with fail
    refine HC.out.mono ?_
    rintro e wn ⟨hk, hn, ht, hna, hnl, hnc, hia, hil, hic, rfl, hg, hbn⟩
    rw [HPV.out] at hg
    have HJ2 := Hold.mk (hg.mono (cfV_cf2 (((cle_below H3.out.bel).trans (cle_below HG.out)).trans (cle_cfU _)) hbn))
    replace HG := Hold.mk (HG.out.trans (hbn.mono HG.out.size))
    replace HJ1 := Hold.mk (HJ1.out.mono (cle_below hbn))
    clear hbn hg HC HQ3
    go_wp2_with fail
    refine mixl_act (i := 20) rfl (by kernel_rfl) (growC HG.out) rfl (fun K hK => ?_)
    have HC := Hold.mk (rSame_any pv pv _ _ wn HJ1.out HJ2.out)
    rw [sameB_true rfl] at HC
    go_wp2_with fail
    refine HC.out.mono ?_
    rintro e wn ⟨rfl, hbn⟩
    replace HG := Hold.mk (HG.out.trans (hbn.mono HG.out.size))
    clear hbn HC
    go_wp2_with fail
    refine mixl_seg (by kernel_rfl) (fun _ _ d _ _ h => by cases d <;> exact h) [21, 22] [_, _] 0 2 rfl _ _ _ rfl (by kernel_rfl) (growC HG.out) ?_
    repeat (go_big_quiet_step (fail))
    refine wpQuiet_nil ?_
    refine mix_done (by kernel_rfl) (growC HG.out) ?_
    have HBF := H3.out.bel.trans (HG.out.mono H3.out.bel.size)
    go_wp2_with fail
    go_ret
    exact ⟨by simp, HBF⟩

end Go.Proofs.YtkhhbckpddkhlaaGreatDoor
