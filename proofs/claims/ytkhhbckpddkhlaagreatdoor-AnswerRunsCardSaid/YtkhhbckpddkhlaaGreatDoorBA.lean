/- Answers: AnswerRuns walked. (printed by genXBA.py) -/
import Derived.Test.YtkhhbckpddkhlaaGreatDoorAX
import Derived.Test.YtkhhbckpddkhlaaGreatDoorAY
namespace Go.Proofs.YtkhhbckpddkhlaaGreatDoor
open Go.Shelf Go.RowKit

theorem runO_len (q : QR) (l : List DR) : (runO q l).length ≤ l.length := by
  unfold runO
  split
  · unfold outA pageA
    have h : (sortA q l).length ≤ l.length := by rw [(sortA_perm q l).length_eq]; exact List.length_filter_le _ _
    rw [List.length_map]
    split
    · rw [List.length_drop]; omega
    · rw [List.length_take, List.length_drop]; omega
  · exact Nat.zero_le _

set_option maxRecDepth 100000 in
set_option maxHeartbeats 32000000 in
theorem answerRuns_walk (q : QR) (l : List DR) (d : List Value) (lv : Value) (w : World) (hq : QAt (cf w) q d) (hl : SAt 6 RD (cf w) lv l) (hT : Tabs w) :
    Calls Tryz.prog 3 #[.agg d.toArray, lv] w fun e w' => e = .returned (.bool true) ∧ Below w.heap.size w w' := by
  have HQA := Hold.mk hq
  have HLA := Hold.mk hl
  obtain ⟨k, n, t, na, nl, nc, ia, il, ic, sv, fv, rfl, hj, hs, hf⟩ := hq
  obtain ⟨sa, scap, rfl⟩ := hs.form
  obtain ⟨fa, fcap, rfl⟩ := hf.form
  obtain ⟨la, lcap, rfl⟩ := hl.form
  have HT := Hold.mk hT
  obtain ⟨W, hW⟩ : ∃ W, W = w.alloc (.cells #[.int .i64 k, .int .i64 n, .string t, .slice na nl nc, .slice ia il ic, .slice sa q.sort.length scap, .slice fa q.fields.length fcap, .int .i64 q.skip, .int .i64 q.lim] 28) := ⟨_, rfl⟩
  have hb : Below w.heap.size w W := by rw [hW]; exact (Below.refl _ w).alloc (Nat.le_refl _) _
  have HX : Hold (W.heap[w.heap.size]? = some (.cells #[.int .i64 k, .int .i64 n, .string t, .slice na nl nc, .slice ia il ic, .slice sa q.sort.length scap, .slice fa q.fields.length fcap, .int .i64 q.skip, .int .i64 q.lim] 28 (0, 0))) := ⟨by rw [hW]; exact heap_alloc_new w _⟩
  have HB := Hold.mk hb
  have HA := Hold.mk (awake16_any W (hT.below hb))
  clear hb hj hs hf hl hT
  go_enter Tryz.func3, Tryz.ntmps3
  go_upto_region 1 with (fail)
  rw [← hW]
  clear hW
  go_wp2_with fail
  refine HA.out.mono ?_
  rintro e w1 ⟨rfl, hb1⟩
  replace HX := Hold.mk (kept HX.out hb1)
  replace HB := Hold.mk (HB.out.trans (hb1.mono HB.out.size))
  clear hb1 HA
  have HF := Hold.mk (lfew_any q l _ _ w1 (HQA.out.mono (cle_below HB.out)) (HLA.out.mono RD_mono (cle_below HB.out)))
  obtain ⟨y0, y1, y2, y3, y4, y5, y6, y7, y8⟩ := cells9A HX.out
  go_wp2_with fail
  refine HF.out.mono ?_
  rintro e w2 ⟨fb, rfl, hfb, hb2⟩
  replace HX := Hold.mk (kept HX.out hb2)
  replace HB := Hold.mk (HB.out.trans (hb2.mono HB.out.size))
  have HFB := Hold.mk hfb
  clear hb2 hfb HF y0 y1 y2 y3 y4 y5 y6 y7 y8
  cases fb with
  | false =>
    have HA := Hold.mk (awake16_any w2 (HT.out.below HB.out))
    go_wp2_with fail
    refine HA.out.mono ?_
    rintro e w3 ⟨rfl, hb3⟩
    have HBF := HB.out.trans (hb3.mono HB.out.size)
    clear hb3 HA
    go_wp2_with fail
    go_ret
    exact ⟨rfl, HBF⟩
  | true =>
    have HSM := Hold.mk (HFB.out rfl)
    have hsz : ∀ o ∈ q.sort, o.path.size ≤ 1000000 := fun o ho => by have := HSM.out.paths o ho; omega
    have hfz : ∀ p ∈ q.fields, p.size ≤ 1000000 := fun p hp => by have := HSM.out.parts p hp; omega
    have hid : ∀ x ∈ l, x.id.size ≤ 1000000 := fun x hx => by have := HSM.out.ids x hx; omega
    have hll : l.length ≤ 1000000 := by have := HSM.out.docs; omega
    have HSZ := Hold.mk hsz
    have HFZ := Hold.mk hfz
    have HID := Hold.mk hid
    have HLL := Hold.mk hll
    have HSL : Hold (q.sort.length ≤ 1000000) := ⟨by have := HSM.out.sort; omega⟩
    clear hsz hfz hid hll
    obtain ⟨y0, y1, y2, y3, y4, y5, y6, y7, y8⟩ := cells9A HX.out
    have HR := Hold.mk (qRun_any q l _ _ w2 (HQA.out.mono (cle_below HB.out)) (HLA.out.mono RD_mono (cle_below HB.out)) HLL.out HID.out HSZ.out HFZ.out (HT.out.below HB.out))
    go_wp2_with fail
    refine HR.out.mono ?_
    rintro e w3 ⟨ra, rfl, hra, hb3⟩
    obtain ⟨raa, rac, rfl⟩ := hra.form
    have HRA := Hold.mk hra
    replace HX := Hold.mk (kept HX.out hb3)
    replace HB := Hold.mk (HB.out.trans (hb3.mono HB.out.size))
    clear hb3 hra HR y0 y1 y2 y3 y4 y5 y6 y7 y8
    obtain ⟨y0, y1, y2, y3, y4, y5, y6, y7, y8⟩ := cells9A HX.out
    have HP := Hold.mk (aplain_any q _ w3 (HQA.out.mono (cle_below HB.out)) HSL.out)
    go_wp2_with fail
    refine HP.out.mono ?_
    rintro e w4 ⟨d2, rfl, hq2, hb4⟩
    have HQ2 := Hold.mk hq2
    replace HX := Hold.mk (kept HX.out hb4)
    replace HB := Hold.mk (HB.out.trans (hb4.mono HB.out.size))
    replace HRA := Hold.mk (HRA.out.mono RD_mono (cle_below hb4))
    have HD := Hold.mk (adocs_any l _ w4 (HLA.out.mono RD_mono (cle_below HB.out)) HLL.out)
    clear hb4 hq2 HP y0 y1 y2 y3 y4 y5 y6 y7 y8
    go_wp2_with fail
    refine HD.out.mono ?_
    rintro e w5 ⟨dv, rfl, hdv, hb5⟩
    have HR := Hold.mk (rqRun_any q l d2 dv w5 (HQ2.out.mono (cle_below hb5)) hdv HLL.out HID.out HSZ.out HFZ.out)
    replace HX := Hold.mk (kept HX.out hb5)
    replace HB := Hold.mk (HB.out.trans (hb5.mono HB.out.size))
    replace HRA := Hold.mk (HRA.out.mono RD_mono (cle_below hb5))
    clear hb5 hdv HD HQ2
    go_wp2_with fail
    refine HR.out.mono ?_
    rintro e w6 ⟨rb, rfl, hrb, hb6⟩
    obtain ⟨rba, rbc, rfl⟩ := hrb.form
    have HRB := Hold.mk hrb
    replace HX := Hold.mk (kept HX.out hb6)
    replace HB := Hold.mk (HB.out.trans (hb6.mono HB.out.size))
    replace HRA := Hold.mk (HRA.out.mono RD_mono (cle_below hb6))
    clear hb6 hrb HR
    obtain ⟨R, hR⟩ : ∃ R, R = runO q l := ⟨_, rfl⟩
    have HRL : Hold (R.length ≤ 1000000) := ⟨by rw [hR]; exact Nat.le_trans (runO_len q l) HLL.out⟩
    rw [← hR] at HRA HRB ⊢
    clear hR
    obtain ⟨er, her⟩ : ∃ er, er = runE q l := ⟨_, rfl⟩
    rw [← her]
    clear her
    go_upto_region 5 with (fail)
    obtain ⟨y0, y1, y2, y3, y4, y5, y6, y7, y8⟩ := cells9A HX.out
    have p0 := Grow.cell y0
    have p1 := Grow.cell y1
    have p2 := Grow.cell y2
    have p3 := Grow.cell y3
    have p4 := Grow.cell y4
    have p5 := Grow.cell y5
    have p6 := Grow.cell y6
    have p7 := Grow.cell y7
    have p8 := Grow.cell y8
    clear y0 y1 y2 y3 y4 y5 y6 y7 y8
    refine wp_region_mix 18 rfl (by kernel_rfl) ?_
    rintro w7 hb7
    refine mixl_seg (by kernel_rfl) (fun _ _ d _ _ h => by cases d <;> exact h) [0, 1, 2, 3, 4, 6] [_, _, _, _, _, _] 12 18 rfl _ _ _ rfl (by kernel_rfl) (growC hb7) ?_
    repeat (go_big_quiet_step (fail))
    refine wpQuiet_nil ?_
    have HG := Hold.mk hb7
    clear hb7
    refine mixl_act (i := 5) rfl (by kernel_rfl) (growC HG.out) rfl (fun K hK => ?_)
    have HD := Hold.mk (adocs_any R _ w7 (HRA.out.mono RD_mono (cle_below HG.out)) HRL.out)
    go_wp2_with fail
    refine HD.out.mono ?_
    rintro e w8 ⟨dv, rfl, hdv, hb8⟩
    have HSAM := Hold.mk (dSame_eq R dv _ w8 hdv (HRB.out.mono RD_mono ((cle_below HG.out).trans (cle_below hb8))))
    replace HG := Hold.mk (HG.out.trans (hb8.mono HG.out.size))
    clear hdv hb8 HD
    go_wp2_with fail
    refine mixl_act (i := 7) rfl (by kernel_rfl) (growC HG.out) rfl (fun K hK => ?_)
    go_wp2_with fail
    refine HSAM.out.mono ?_
    rintro e w9 ⟨rfl, hb9⟩
    replace HG := Hold.mk (HG.out.trans (hb9.mono HG.out.size))
    clear hb9 HSAM
    go_wp2_with fail
    refine mixl_seg (by kernel_rfl) (fun _ _ d _ _ h => by cases d <;> exact h) [8, 9, 10, 12] [_, _, _, _] 6 10 rfl _ _ _ rfl (by kernel_rfl) (growC HG.out) ?_
    repeat (go_big_quiet_step (fail))
    refine wpQuiet_nil ?_
    clear p0 p1 p2 p3 p4 p5 p6 p7 p8
    refine mixl_act (i := 11) rfl (by kernel_rfl) (growC HG.out) rfl (fun K hK => ?_)
    have HC := Hold.mk (qCheck_any q _ w9 (HQA.out.mono ((cle_below HB.out).trans (cle_below HG.out))) HSZ.out HFZ.out (HT.out.below (HB.out.trans (HG.out.mono HB.out.size))))
    go_wp2_with fail
    refine HC.out.mono ?_
    rintro e wa ⟨rfl, hba⟩
    replace HG := Hold.mk (HG.out.trans (hba.mono HG.out.size))
    clear hba HC
    go_wp2_with fail
    refine mixl_act (i := 13) rfl (by kernel_rfl) (growC HG.out) rfl (fun K hK => ?_)
    have HP := Hold.mk (aplain_any q _ wa (HQA.out.mono ((cle_below HB.out).trans (cle_below HG.out))) HSL.out)
    go_wp2_with fail
    refine HP.out.mono ?_
    rintro e wb ⟨d3, rfl, hq3, hbb⟩
    have HC := Hold.mk (rqCheck_any q d3 wb hq3 HSZ.out HFZ.out)
    replace HG := Hold.mk (HG.out.trans (hbb.mono HG.out.size))
    clear hbb hq3 HP
    go_wp2_with fail
    refine mixl_act (i := 14) rfl (by kernel_rfl) (growC HG.out) rfl (fun K hK => ?_)
    go_wp2_with fail
    refine HC.out.mono ?_
    rintro e wc ⟨rfl, hbc⟩
    replace HG := Hold.mk (HG.out.trans (hbc.mono HG.out.size))
    clear hbc HC
    go_wp2_with fail
    refine mixl_seg (by kernel_rfl) (fun _ _ d _ _ h => by cases d <;> exact h) [15, 16, 17] [_, _, _] 0 3 rfl _ _ _ rfl (by kernel_rfl) (growC HG.out) ?_
    repeat (go_big_quiet_step (fail))
    refine wpQuiet_nil ?_
    refine mix_done (by kernel_rfl) (growC HG.out) ?_
    have HBF := HB.out.trans (HG.out.mono HB.out.size)
    go_wp2_with fail
    go_ret
    exact ⟨by simp, HBF⟩

end Go.Proofs.YtkhhbckpddkhlaaGreatDoor
