/- CatalogShows, walked (printed by genXCBL.py). -/
import Derived.Test.YtfpphpjobkhalaaGreatDoorZ32
import Derived.Test.YtfpphpjobkhalaaGreatDoorZ48
namespace Go.Proofs.YtfpphpjobkhalaaGreatDoor
open Go.Shelf Go.RowKit

set_option maxRecDepth 100000 in
set_option maxHeartbeats 32000000 in
theorem catalogShows_walk (l : List CX) (cv : Value) (v : JV) (vv : Value) (w : World) (hx : CatAt (cf w) l cv) (hv : JAt (cf w) v vv) (hT : Tabs w) :
    Calls Tryz.prog 4 #[cv, vv] w fun e w' => e = .returned (.bool true) ∧ Below w.heap.size w w' := by
  have HX := Hold.mk hx
  have HV := Hold.mk hv
  have HT := Hold.mk hT
  obtain ⟨a, cap, rfl, hsat⟩ := hx
  obtain ⟨k, n, t, nm, it, na, ncap, ia, icap, hve, rfl, _, _, _, hst, hit⟩ := hv.open
  obtain ⟨W, hW, hB, e0, e1⟩ := twoE w (.cells #[.slice a l.length cap] 24) (.cells #[.int .i64 k, .int .i64 n, .string t, .slice na nm.length ncap, .slice ia it.length icap] 55)
  have HB := Hold.mk (TB.mk hB e0 e1)
  clear hsat hT hve hst hit hv hB e0 e1
  go_enter Tryz.func4, Tryz.ntmps4
  go_wp2_with fail
  rw [← hW]
  clear hW
  refine (awake19_any _ (HT.out.below HB.out.bel)).mono ?_
  rintro e w1 ⟨rfl, hb1⟩
  replace HB := Hold.mk (HB.out.next hb1)
  clear hb1
  have y0 : w1.cell? ⟨w.heap.size, 0, none⟩ = some (.slice a l.length cap) := by have := HB.out.one; simp [World.cell?, this]
  go_wp2_with fail
  clear y0
  refine (few19_any l _ _ (HX.out.mono (cle_below HB.out.bel))).mono ?_
  rintro e w2 ⟨fb, rfl, hfb, hb2⟩
  replace HB := Hold.mk (HB.out.next hb2)
  clear hb2
  cases fb with
  | false =>
    clear hfb
    go_wp2_with fail
    refine (awake19_any _ (HT.out.below HB.out.bel)).mono ?_
    rintro e w3 ⟨rfl, hb3⟩
    replace HB := Hold.mk (HB.out.next hb3)
    clear hb3
    go_wp2_with fail
    go_ret
    exact ⟨rfl, HB.out.bel⟩
  | true =>
    have HFS := Hold.mk (few_small (hfb rfl))
    have HNS : Hold ((spacesC l).length ≤ 1000000) := ⟨few_spaces (hfb rfl)⟩
    clear hfb
    obtain ⟨y0, y1, y2, y3, y4⟩ := cells_five HB.out.two
    go_wp2_with fail
    clear y0 y1 y2 y3 y4
    refine (few_any HV.out _ (cle_below HB.out.bel)).mono ?_
    rintro e w3 ⟨rfl, hb3⟩
    replace HB := Hold.mk (HB.out.next hb3)
    clear hb3
    cases hfv : fewF v with
    | false =>
      clear hfv
      go_wp2_with fail
      refine (awake19_any _ (HT.out.below HB.out.bel)).mono ?_
      rintro e w4 ⟨rfl, hb3⟩
      replace HB := Hold.mk (HB.out.next hb3)
      clear hb3
      go_wp2_with fail
      go_ret
      exact ⟨rfl, HB.out.bel⟩
    | true =>
      have HFV := Hold.mk (few_parsableC hfv)
      clear hfv
      have y0 : w3.cell? ⟨w.heap.size, 0, none⟩ = some (.slice a l.length cap) := by have := HB.out.one; simp [World.cell?, this]
      go_wp2_with fail
      clear y0
      refine (ShowC_any l _ _ (HX.out.mono (cle_below HB.out.bel)) HFS.out.1 (HT.out.below HB.out.bel)).mono ?_
      rintro e w4 hpo
      obtain ⟨y, rfl, hy, hb⟩ := showC_post hpo
      replace HB := Hold.mk (HB.out.next hb)
      have HA := Hold.mk hy
      obtain ⟨ak, an, at', anm, ait, ana, ancap, aia, aicap, _, rfl, _⟩ := hy.open
      clear hb hpo hy
      obtain ⟨WA, hWA, hb, e0⟩ := oneE w4 (.cells #[.int .i64 ak, .int .i64 an, .string at', .slice ana anm.length ancap, .slice aia ait.length aicap] 55)
      have HBA := Hold.mk e0
      have HWA := Hold.mk hb
      clear hb e0
      have hl0 := heap_lt HB.out.one
      have y0 : WA.cell? ⟨w.heap.size, 0, none⟩ = some (.slice a l.length cap) := by have := kept HB.out.one HWA.out; simp [World.cell?, this]
      go_upto_region 4 with (fail)
      clear hl0
      rw [← hWA]
      clear hWA
      replace HB := Hold.mk (HB.out.next HWA.out)
      replace HA := Hold.mk (HA.out.mono (cle_below HWA.out))
      clear HWA
      generalize w4.heap.size = ka at HBA ⊢
      go_wp2_with fail
      clear y0
      refine (lplainC_any l _ _ (HX.out.mono (cle_below HB.out.bel)) HFS.out.2.2).mono ?_
      rintro e w5 ⟨y, rfl, hy, hb⟩
      replace HB := Hold.mk (HB.out.next hb)
      replace HA := Hold.mk (HA.out.mono (cle_below hb))
      replace HBA := Hold.mk (kept HBA.out hb)
      have HY := Hold.mk hy
      clear hb hy
      go_wp2_with fail
      refine (rShowC_any l _ _ HY.out HFS.out.1 HNS.out).mono ?_
      rintro e w6 hpo
      obtain ⟨y, rfl, hy, hb⟩ := showC_post hpo
      replace HB := Hold.mk (HB.out.next hb)
      replace HA := Hold.mk (HA.out.mono (cle_below hb))
      replace HBA := Hold.mk (kept HBA.out hb)
      have HC := Hold.mk hy
      obtain ⟨ck, cn, ct', cnm, cit, cna, cncap, cia, cicap, _, rfl, _⟩ := hy.open
      clear hb hpo hy HY
      obtain ⟨WC, hWC, hb, e0⟩ := oneE w6 (.cells #[.int .i64 ck, .int .i64 cn, .string ct', .slice cna cnm.length cncap, .slice cia cit.length cicap] 55)
      have HBC := Hold.mk e0
      have HWC := Hold.mk hb
      clear hb e0
      obtain ⟨y0, y1, y2, y3, y4⟩ := cells_five HB.out.two
      have hl0 := heap_lt HB.out.two
      go_wp2_with fail
      clear y0 y1 y2 y3 y4 hl0
      rw [← hWC]
      clear hWC
      replace HB := Hold.mk (HB.out.next HWC.out)
      replace HA := Hold.mk (HA.out.mono (cle_below HWC.out))
      replace HBA := Hold.mk (kept HBA.out HWC.out)
      replace HC := Hold.mk (HC.out.mono (cle_below HWC.out))
      clear HWC
      generalize w6.heap.size = kc at HBC ⊢
      refine (ParseC_any v _ _ (HV.out.mono (cle_below HB.out.bel)) HFV.out.1 HFV.out.2 (HT.out.below HB.out.bel)).mono ?_
      rintro e w7 ⟨y, rfl, hy, hb⟩
      replace HB := Hold.mk (HB.out.next hb)
      replace HA := Hold.mk (HA.out.mono (cle_below hb))
      replace HBA := Hold.mk (kept HBA.out hb)
      replace HC := Hold.mk (HC.out.mono (cle_below hb))
      replace HBC := Hold.mk (kept HBC.out hb)
      have HP := Hold.mk hy
      have HSZ := Hold.mk (parseC_sized v)
      obtain ⟨pl, ep, hpl⟩ : ∃ pl ep, parseC v = (pl, ep) := ⟨_, _, rfl⟩
      rw [hpl] at hy HP HSZ ⊢
      have HPL := Hold.mk hpl
      simp only at hy HP HSZ ⊢
      obtain ⟨pa, pcap, rfl, _⟩ := hy
      clear hb hpl
      obtain ⟨WP, hWP, hb, e0⟩ := oneE w7 (.cells #[.slice pa pl.length pcap] 24)
      have HBP := Hold.mk e0
      have HWP := Hold.mk hb
      clear hb e0
      obtain ⟨y0, y1, y2, y3, y4⟩ := cells_five HB.out.two
      have hl0 := heap_lt HB.out.two
      go_wp2_with fail
      clear y0 y1 y2 y3 y4 hl0
      rw [← hWP]
      clear hWP
      replace HB := Hold.mk (HB.out.next HWP.out)
      replace HA := Hold.mk (HA.out.mono (cle_below HWP.out))
      replace HBA := Hold.mk (kept HBA.out HWP.out)
      replace HC := Hold.mk (HC.out.mono (cle_below HWP.out))
      replace HBC := Hold.mk (kept HBC.out HWP.out)
      replace HP := Hold.mk (HP.out.mono (cle_below HWP.out))
      clear HWP
      generalize w7.heap.size = kp at HBP ⊢
      have HRP := Hold.mk (rParseC_any v _ WP (HV.out.mono (cle_below HB.out.bel)) HFV.out.1 HFV.out.2)
      rw [HPL.out] at HRP
      refine HRP.out.mono ?_
      rintro e w8 ⟨y, rfl, hy, hb⟩
      simp only at hy ⊢
      replace HB := Hold.mk (HB.out.next hb)
      replace HA := Hold.mk (HA.out.mono (cle_below hb))
      replace HBA := Hold.mk (kept HBA.out hb)
      replace HC := Hold.mk (HC.out.mono (cle_below hb))
      replace HBC := Hold.mk (kept HBC.out hb)
      replace HP := Hold.mk (HP.out.mono (cle_below hb))
      replace HBP := Hold.mk (kept HBP.out hb)
      have HQ := Hold.mk hy
      obtain ⟨qa, qcap, rfl, _⟩ := hy
      clear hb HRP
      obtain ⟨WQ, hWQ, hb, e0⟩ := oneE w8 (.cells #[.slice qa pl.length qcap] 31)
      have HBQ := Hold.mk e0
      have HWQ := Hold.mk hb
      clear hb e0
      go_wp2_with fail
      rw [← hWQ]
      clear hWQ
      replace HB := Hold.mk (HB.out.next HWQ.out)
      replace HA := Hold.mk (HA.out.mono (cle_below HWQ.out))
      replace HBA := Hold.mk (kept HBA.out HWQ.out)
      replace HC := Hold.mk (HC.out.mono (cle_below HWQ.out))
      replace HBC := Hold.mk (kept HBC.out HWQ.out)
      replace HP := Hold.mk (HP.out.mono (cle_below HWQ.out))
      replace HBP := Hold.mk (kept HBP.out HWQ.out)
      replace HQ := Hold.mk (HQ.out.mono (cle_below HWQ.out))
      clear HWQ
      generalize w8.heap.size = kq at HBQ ⊢
      obtain ⟨ea, hea⟩ : ∃ q, errI (formC l) = q := ⟨_, rfl⟩
      rw [hea]
      have HEA := Hold.mk hea
      clear hea
      obtain ⟨y0, y1, y2, y3, y4⟩ := cells_five HBA.out
      have g0 := Grow.cell y0
      have g1 := Grow.cell y1
      have g2 := Grow.cell y2
      have g3 := Grow.cell y3
      have g4 := Grow.cell y4
      clear y0 y1 y2 y3 y4
      obtain ⟨y0, y1, y2, y3, y4⟩ := cells_five HBC.out
      have u0 := Grow.cell y0
      have u1 := Grow.cell y1
      have u2 := Grow.cell y2
      have u3 := Grow.cell y3
      have u4 := Grow.cell y4
      clear y0 y1 y2 y3 y4
      have p0 := Grow.cell (show WQ.cell? ⟨kp, 0, none⟩ = some (.slice pa pl.length pcap) by have := HBP.out; simp [World.cell?, this])
      have q0 := Grow.cell (show WQ.cell? ⟨kq, 0, none⟩ = some (.slice qa pl.length qcap) by have := HBQ.out; simp [World.cell?, this])
      refine wp_region_mix 21 rfl (by kernel_rfl) ?_
      rintro w9 hb3
      have HB3 := Hold.mk hb3
      clear hb3
      refine mixl_seg (by kernel_rfl) (fun _ _ d _ _ h => by cases d <;> exact h) [0, 1, 2, 3, 4, 5] [_, _, _, _, _, _] 15 21 rfl _ _ _ rfl (by kernel_rfl) (growC HB3.out) ?_
      repeat (go_big_quiet_step (fail))
      refine wpQuiet_nil ?_
      refine mixl_act (i := 6) rfl (by kernel_rfl) (growC HB3.out) rfl (fun K hK => ?_)
      go_wp2_with fail
      refine (rSame_any (showCX l) (showCX l) _ _ w9 (HA.out.mono (cle_below HB3.out)) (HC.out.mono (cle_below HB3.out))).mono ?_
      rintro e w10 ⟨rfl, hb4⟩
      replace HB3 := Hold.mk (HB3.out.trans (hb4.mono HB3.out.size))
      clear hb4
      rw [sameB_true rfl]
      go_wp2_with fail
      refine mixl_seg (by kernel_rfl) (fun _ _ d _ _ h => by cases d <;> exact h) [7, 8, 9, 10, 11, 12, 13, 14, 15, 17] [_, _, _, _, _, _, _, _, _, _] 4 14 rfl _ _ _ rfl (by kernel_rfl) (growC HB3.out) ?_
      repeat (go_big_quiet_step (fail))
      refine wpQuiet_nil ?_
      refine mixl_act (i := 16) rfl (by kernel_rfl) (growC HB3.out) rfl (fun K hK => ?_)
      go_wp2_with fail
      refine (lplainC_any pl _ _ (HP.out.mono (cle_below HB3.out)) HSZ.out).mono ?_
      rintro e w11 ⟨y, rfl, hy, hb4⟩
      replace HB3 := Hold.mk (HB3.out.trans (hb4.mono HB3.out.size))
      have HY := Hold.mk (rSameC_any pl y _ w11 hy (HQ.out.mono (cle_below HB3.out)))
      clear hb4 hy
      go_wp2_with fail
      refine mixl_act (i := 18) rfl (by kernel_rfl) (growC HB3.out) rfl (fun K hK => ?_)
      go_wp2_with fail
      refine HY.out.mono ?_
      rintro e w12 ⟨rfl, hb4⟩
      replace HB3 := Hold.mk (HB3.out.trans (hb4.mono HB3.out.size))
      clear hb4 HY
      go_wp2_with fail
      refine mixl_seg (by kernel_rfl) (fun _ _ d _ _ h => by cases d <;> exact h) [19, 20] [_, _] 0 2 rfl _ _ _ rfl (by kernel_rfl) (growC HB3.out) ?_
      repeat (go_big_quiet_step (fail))
      refine wpQuiet_nil ?_
      refine mix_done (by kernel_rfl) (growC HB3.out) ?_
      replace HB := Hold.mk (HB.out.next HB3.out)
      replace HA := Hold.mk (HA.out.mono (cle_below HB3.out))
      replace HBA := Hold.mk (kept HBA.out HB3.out)
      clear HB3 HC HBC HP HBP HQ HBQ HPL HSZ g0 g1 g2 g3 g4 u0 u1 u2 u3 u4 p0 q0
      cases hf : formC l with
      | false =>
        obtain rfl : ea = 2 := by rw [← HEA.out, hf]; rfl
        clear hf HEA
        go_wp2_with fail
        go_ret
        exact ⟨rfl, HB.out.bel⟩
      | true =>
        obtain rfl : ea = 0 := by rw [← HEA.out, hf]; rfl
        replace HA : Hold (JAt _ (showC l) _) := ⟨by have := HA.out; unfold showCX at this; rw [if_pos hf] at this; exact this⟩
        have HPA := Hold.mk (showC_parsable hf)
        have HPX := Hold.mk (parse_showC hf)
        have HFS2 := Hold.mk (formed_showC hf)
        clear hf HEA
        obtain ⟨y0, y1, y2, y3, y4⟩ := cells_five HBA.out
        go_wp2_with fail
        clear y0 y1 y2 y3 y4
        refine (ParseC_any (showC l) _ _ HA.out HPA.out.1 HPA.out.2 (HT.out.below HB.out.bel)).mono ?_
        rintro e w13 ⟨y, rfl, hy, hb⟩
        rw [HPX.out] at hy ⊢
        simp only at hy ⊢
        replace HB := Hold.mk (HB.out.next hb)
        replace HA := Hold.mk (HA.out.mono (cle_below hb))
        replace HBA := Hold.mk (kept HBA.out hb)
        have HP := Hold.mk hy
        obtain ⟨pa, pcap, rfl, _⟩ := hy
        clear hb
        obtain ⟨WP, hWP, hb, e0⟩ := oneE w13 (.cells #[.slice pa l.length pcap] 24)
        have HBP := Hold.mk e0
        have HWP := Hold.mk hb
        clear hb e0
        go_upto_region 12 with (fail)
        rw [← hWP]
        clear hWP
        replace HB := Hold.mk (HB.out.next HWP.out)
        replace HA := Hold.mk (HA.out.mono (cle_below HWP.out))
        replace HBA := Hold.mk (kept HBA.out HWP.out)
        replace HP := Hold.mk (HP.out.mono (cle_below HWP.out))
        clear HWP
        generalize w13.heap.size = kw at HBP ⊢
        obtain ⟨y0, y1, y2, y3, y4⟩ := cells_five HBA.out
        have g0 := Grow.cell y0
        have g1 := Grow.cell y1
        have g2 := Grow.cell y2
        have g3 := Grow.cell y3
        have g4 := Grow.cell y4
        clear y0 y1 y2 y3 y4
        have p0 := Grow.cell (show WP.cell? ⟨kw, 0, none⟩ = some (.slice pa l.length pcap) by have := HBP.out; simp [World.cell?, this])
        have q0 := Grow.cell (show WP.cell? ⟨w.heap.size, 0, none⟩ = some (.slice a l.length cap) by have := HB.out.one; simp [World.cell?, this])
        refine wp_region_mix 14 rfl (by kernel_rfl) ?_
        rintro w9 hb3
        have HB3 := Hold.mk hb3
        clear hb3
        refine mixl_seg (by kernel_rfl) (fun _ _ d _ _ h => by cases d <;> exact h) [0] [_] 13 14 rfl _ _ _ rfl (by kernel_rfl) (growC HB3.out) ?_
        repeat (go_big_quiet_step (fail))
        refine wpQuiet_nil ?_
        have HFO := Hold.mk (Formed_any (showC l) _ w9 (HA.out.mono (cle_below HB3.out)) (HT.out.below (HB.out.bel.trans (HB3.out.mono HB.out.bel.size))))
        rw [HFS2.out] at HFO
        refine mixl_act (i := 1) rfl (by kernel_rfl) (growC HB3.out) rfl (fun K hK => ?_)
        go_wp2_with fail
        refine HFO.out.mono ?_
        rintro e w10 ⟨rfl, hb4⟩
        replace HB3 := Hold.mk (HB3.out.trans (hb4.mono HB3.out.size))
        clear hb4 HFO
        go_wp2_with fail
        refine mixl_seg (by kernel_rfl) (fun _ _ d _ _ h => by cases d <;> exact h) [2, 3, 4, 5, 6, 7, 9] [_, _, _, _, _, _, _] 5 12 rfl _ _ _ rfl (by kernel_rfl) (growC HB3.out) ?_
        repeat (go_big_quiet_step (fail))
        refine wpQuiet_nil ?_
        refine mixl_act (i := 8) rfl (by kernel_rfl) (growC HB3.out) rfl (fun K hK => ?_)
        go_wp2_with fail
        refine (lplainC_any l _ _ (HP.out.mono (cle_below HB3.out)) HFS.out.2.2).mono ?_
        rintro e w11 ⟨y1, rfl, hy, hb4⟩
        replace HB3 := Hold.mk (HB3.out.trans (hb4.mono HB3.out.size))
        have HY1 := Hold.mk hy
        clear hb4 hy
        go_wp2_with fail
        refine mixl_act (i := 10) rfl (by kernel_rfl) (growC HB3.out) rfl (fun K hK => ?_)
        go_wp2_with fail
        refine (lplainC_any l _ _ (HX.out.mono (cle_below (HB.out.bel.trans (HB3.out.mono HB.out.bel.size)))) HFS.out.2.2).mono ?_
        rintro e w12 ⟨y2, rfl, hy, hb4⟩
        replace HB3 := Hold.mk (HB3.out.trans (hb4.mono HB3.out.size))
        have HY := Hold.mk (rSameC_any l y1 y2 w12 (HY1.out.mono (cle_below hb4)) hy)
        clear hb4 hy HY1
        go_wp2_with fail
        refine mixl_act (i := 11) rfl (by kernel_rfl) (growC HB3.out) rfl (fun K hK => ?_)
        go_wp2_with fail
        refine HY.out.mono ?_
        rintro e w13 ⟨rfl, hb4⟩
        replace HB3 := Hold.mk (HB3.out.trans (hb4.mono HB3.out.size))
        clear hb4 HY
        go_wp2_with fail
        refine mixl_seg (by kernel_rfl) (fun _ _ d _ _ h => by cases d <;> exact h) [12, 13] [_, _] 0 2 rfl _ _ _ rfl (by kernel_rfl) (growC HB3.out) ?_
        repeat (go_big_quiet_step (fail))
        refine wpQuiet_nil ?_
        refine mix_done (by kernel_rfl) (growC HB3.out) ?_
        replace HB := Hold.mk (HB.out.next HB3.out)
        clear HB3 HA HBA HP HBP g0 g1 g2 g3 g4 p0 q0
        go_wp2_with fail
        go_ret
        exact ⟨rfl, HB.out.bel⟩
end Go.Proofs.YtfpphpjobkhalaaGreatDoor
