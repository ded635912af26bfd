/- Writes: WritesPut walked. (printed by genXWJ.py) -/
import Derived.Test.YtkhhbckpddkhlaaGreatDoorWI
import Derived.Deep.DeepCutAuto
namespace Go.Proofs.YtkhhbckpddkhlaaGreatDoor
open Go.Shelf Go.RowKit

theorem satW_one (w : World) (x : WR) (T : TypeId) (hx : ∀ c, RW c x x.cells.toList) : SAt 4 RW (cf (w.alloc (.cells x.cells T))) (.slice (some ⟨w.heap.size, 0, none⟩) 1 1) [x] := by
  have h := heap_alloc_new w (.cells x.cells T)
  refine ⟨_, 1, rfl, Nat.le_refl _, by decide, fun i y hy => ?_⟩
  obtain ⟨rfl, rfl⟩ : i = 0 ∧ x = y := by
    match i, hy with
    | 0, hy => exact ⟨rfl, by simpa using hy⟩
  refine ⟨_, 0, x.cells.toList, rfl, rfl, fun j u hu => ?_, hx _⟩
  unfold cf
  have hj : x.cells[j]? = some u := by simpa using hu
  simp only [World.cell?]
  rw [h]
  simpa using hj
/-- what Get answers, by itself -/
def getV (l : List WR) (sp : Int) (id : ByteArray) : WR := (getF l sp id).getD ⟨0, ⟨#[]⟩, false, ⟨#[]⟩⟩
def getB (l : List WR) (sp : Int) (id : ByteArray) : Bool := (getF l sp id).isSome
theorem get_post {l : List WR} {sp : Int} {id : ByteArray} {w w' : World} {e : Ending} (h : GetPost l sp id w e w') : e = .returned (.tuple #[.agg (getV l sp id).cells, .bool (getB l sp id)]) ∧ Below w.heap.size w w' := by
  refine ⟨?_, h.2⟩
  have h1 := h.1
  unfold getV getB
  cases hg : getF l sp id with
  | none => rw [hg] at h1; exact h1
  | some y => rw [hg] at h1; exact h1
open Classical in
theorem putWR_len {l : List WR} {x : WR} {n : Nat} (h : l.length < n) : (putWR l x).length ≤ n := by
  unfold putWR
  split
  · rw [putWL_len]; split <;> omega
  · simp
/-- a box of a write that a call made -/
def GBox (w : World) (T : TypeId) (y : WR) (b : Bool) (p q : Value) (wx : World) : Prop := ∃ zb, p = .pointer (some ⟨zb, 0, none⟩) ∧ q = .bool b ∧ wx.heap[zb]? = some (.cells #[.int .i64 y.sp, .string y.id, .bool y.gone, .string y.text] T (0, 0)) ∧ Below w.heap.size w wx

set_option maxRecDepth 100000 in
set_option maxHeartbeats 16000000 in
theorem writesPut_walk (l : List WR) (lv : Value) (x : WR) (w : World) (hl : SAt 4 RW (cf w) lv l) (hx : x.id.size ≤ 9223372036854775807 ∧ x.text.size ≤ 9223372036854775807 ∧ (Lit.int .i64 x.sp).wf = true) (hT : Tabs w) (hP : Pow w.heap.size w) (hE : Errs w.heap.size w) :
    Calls Tryz.prog 6 #[lv, .agg x.cells] w fun e w' => e = .returned (.bool true) ∧ Below w.heap.size w w' := by
  have HRX : Hold (∀ c, RW c x x.cells.toList) := ⟨fun c => ⟨rfl, hx⟩⟩
  have HLV := Hold.mk hl
  have hwf := hx.2.2
  have HWF := Hold.mk hwf
  obtain ⟨la, lcap, rfl, hle, hcap, _⟩ := hl
  obtain ⟨s, i, g, t⟩ := x
  have HT := Hold.mk hT
  have HP := Hold.mk hP
  have HER := Hold.mk hE
  have HONE := Hold.mk (fun w => satW_one w ⟨s, i, g, t⟩ 58 HRX.out)
  unfold WR.cells at HONE ⊢
  simp only at HONE HWF ⊢
  obtain ⟨W, hW⟩ : ∃ W, W = w.alloc (.cells #[.int .i64 s, .string i, .bool g, .string t] 58) := ⟨_, rfl⟩
  have hb : Below w.heap.size w W := by rw [hW]; exact (Below.refl _ w).alloc (Nat.le_refl _) _
  have HX : Hold (W.heap[w.heap.size]? = some (.cells #[.int .i64 s, .string i, .bool g, .string t] 58 (0, 0))) := ⟨by rw [hW]; exact heap_alloc_new w _⟩
  have HB := Hold.mk hb
  clear hb hT hP hE hx hwf
  go_enter Tryz.func6, Tryz.ntmps6
  go_upto_region 1 with (fail)
  rw [← hW]
  clear hW
  go_wp2_with fail
  refine (wawake_any W (HT.out.below HB.out) (Pow.below HP.out HB.out) (errs_after HER.out HB.out)).mono ?_
  rintro e w2 ⟨rfl, hb2⟩
  replace HB := Hold.mk (HB.out.trans (hb2.mono HB.out.size))
  replace HX := Hold.mk (keptR HX.out hb2)
  clear hb2
  go_wp2_with fail
  refine (wfew_any l _ w2 (HLV.out.mono RW_mono (cle_below HB.out))).mono ?_
  rintro e w3 ⟨b, rfl, hbb, hb3⟩
  replace HB := Hold.mk (HB.out.trans (hb3.mono HB.out.size))
  replace HX := Hold.mk (keptR HX.out hb3)
  have HBB := Hold.mk hbb
  clear hb3 hbb
  cases b with
  | false =>
    go_wp2_with fail
    refine (wawake_any w3 (HT.out.below HB.out) (Pow.below HP.out HB.out) (errs_after HER.out HB.out)).mono ?_
    rintro e w9 ⟨rfl, hb9⟩
    have HBF := HB.out.trans (hb9.mono HB.out.size)
    clear hb9
    go_wp2_with fail
    go_ret
    exact ⟨rfl, HBF⟩
  | true =>
  obtain ⟨h30, hsm⟩ := HBB.out rfl
  have HS := Hold.mk hsm
  clear HBB hsm
  obtain ⟨y0, y1, y2, y3⟩ := cells4W HX.out
  go_wp2_with fail
  clear y0 y1 y2 y3
  refine (wfew_any [⟨s, i, g, t⟩] _ _ (HONE.out w3)).mono ?_
  rintro e w4 ⟨b, rfl, hbb, hb4⟩
  have hb34 := ((Below.refl _ w3).alloc (Nat.le_refl _) (.cells #[.int .i64 s, .string i, .bool g, .string t] 58)).trans (hb4.mono (by simp))
  replace HB := Hold.mk (HB.out.trans (hb34.mono HB.out.size))
  replace HX := Hold.mk (keptR HX.out hb34)
  have HBB := Hold.mk hbb
  clear hb4 hbb hb34
  cases b with
  | false =>
    go_wp2_with fail
    refine (wawake_any w4 (HT.out.below HB.out) (Pow.below HP.out HB.out) (errs_after HER.out HB.out)).mono ?_
    rintro e w9 ⟨rfl, hb9⟩
    have HBF := HB.out.trans (hb9.mono HB.out.size)
    clear hb9
    go_wp2_with fail
    go_ret
    exact ⟨rfl, HBF⟩
  | true =>
  obtain ⟨hx1, hx2⟩ := (HBB.out rfl).2 _ (List.mem_singleton.2 rfl)
  simp only at hx1 hx2
  clear HBB
  have HSP : Hold (∀ x ∈ l, x.id.size ≤ 1000000 ∧ x.text.size ≤ 1000000) := ⟨fun x hx => by have := HS.out x hx; omega⟩
  have HSR : Hold (∀ x ∈ l, x.id.size ≤ 1000000 ∧ x.text.size ≤ 20000) := ⟨fun x hx => by have := HS.out x hx; omega⟩
  obtain ⟨pr, hpr⟩ : ∃ pr, pr = putWR l ⟨s, i, g, t⟩ := ⟨_, rfl⟩
  obtain ⟨pe, hpe⟩ : ∃ pe, pe = putWE l ⟨s, i, g, t⟩ := ⟨_, rfl⟩
  have HPU := Hold.mk (wPut_any l _ ⟨s, i, g, t⟩ w4 (HLV.out.mono RW_mono (cle_below HB.out)) HSP.out (by simp only; omega) (by simp only; omega) HWF.out (HT.out.below HB.out) (Pow.below HP.out HB.out) (errs_after HER.out HB.out))
  unfold PutPost at HPU
  rw [← hpr, ← hpe] at HPU
  obtain ⟨y0, y1, y2, y3⟩ := cells4W HX.out
  go_wp2_with fail
  clear y0 y1 y2 y3
  refine HPU.out.mono ?_
  rintro e w5 ⟨pv, rfl, hpv, hb5⟩
  obtain ⟨pa, pcap, rfl⟩ := hpv.form
  replace HB := Hold.mk (HB.out.trans (hb5.mono HB.out.size))
  replace HX := Hold.mk (keptR HX.out hb5)
  have HPV := Hold.mk hpv
  have HL := Hold.mk (HLV.out.mono RW_mono (cle_below HB.out))
  have HRP := Hold.mk (fun (v : Value) (w6 : World) (hv : SAt 4 RW (cf w6) v l) => wrPut_any l v ⟨s, i, g, t⟩ w6 hv HSR.out (by simp only; omega) (by simp only; omega) HWF.out)
  unfold PutPost at HRP
  rw [← hpr, ← hpe] at HRP
  have HPR := Hold.mk hpr
  clear hb5 hpv HPU hpr hpe
  obtain ⟨pn, hpn⟩ : ∃ pn, pn = pr.length := ⟨_, rfl⟩
  have HPN := Hold.mk hpn
  rw [← hpn] at HPV ⊢
  clear hpn
  obtain ⟨y0, y1, y2, y3⟩ := cells4W HX.out
  have g0 := Grow.cell y0
  have g1 := Grow.cell y1
  have g2 := Grow.cell y2
  have g3 := Grow.cell y3
  go_upto_region 4 with (fail)
  clear y0 y1 y2 y3
  refine wp_region_mix 9 rfl (by kernel_rfl) ?_
  rintro w6 hb6
  have HG := Hold.mk hb6
  clear hb6
  refine mixl_seg (by kernel_rfl) (fun _ _ d _ _ h => by cases d <;> exact h) [0, 2] [_, _] 7 9 rfl _ _ _ rfl (by kernel_rfl) (growC HG.out) ?_
  repeat (go_big_quiet_step (fail))
  refine wpQuiet_nil ?_
  clear g0 g1 g2 g3
  refine mixl_act (i := 1) rfl (by kernel_rfl) (growC HG.out) rfl (fun K hK => ?_)
  go_wp2_with fail
  refine (wplain_any l _ w6 (HL.out.mono RW_mono (cle_below HG.out)) (by omega)).mono ?_
  rintro e w7 ⟨sv, rfl, hsv, hbq⟩
  obtain ⟨sa, scap, rfl⟩ := hsv.form
  have HSV := Hold.mk hsv
  replace HG := Hold.mk (HG.out.trans (hbq.mono HG.out.size))
  clear hbq hsv
  go_wp2_with fail
  refine mixl_act (i := 3) rfl (by kernel_rfl) (growC HG.out) rfl (fun K hK => ?_)
  go_wp2_with fail
  refine (HRP.out _ w7 HSV.out).mono ?_
  rintro e w8 ⟨qv, rfl, hqv, hb8⟩
  obtain ⟨qa, qcap, rfl⟩ := hqv.form
  have HQV := Hold.mk hqv
  replace HG := Hold.mk (HG.out.trans (hb8.mono HG.out.size))
  rw [← HPN.out] at HQV ⊢
  clear hb8 hqv HRP HSV
  go_wp2_with fail
  refine mixl_seg (by kernel_rfl) (fun _ _ d _ _ h => by cases d <;> exact h) [4, 5, 6, 7, 8] [_, _, _, _, _] 0 5 rfl _ _ _ rfl (by kernel_rfl) (growC HG.out) ?_
  repeat (go_big_quiet_step (fail))
  refine wpQuiet_nil ?_
  refine mix_done (by kernel_rfl) (growC HG.out) ?_
  replace HB := Hold.mk (HB.out.trans (HG.out.mono HB.out.size))
  replace HX := Hold.mk (keptR HX.out HG.out)
  replace HL := Hold.mk (HL.out.mono RW_mono (cle_below HG.out))
  replace HPV := Hold.mk (HPV.out.mono RW_mono (cle_below HG.out))
  clear HG
  obtain ⟨gv, hgv⟩ : ∃ gv, getV l s i = gv := ⟨_, rfl⟩
  obtain ⟨gb, hgb⟩ : ∃ gb, getB l s i = gb := ⟨_, rfl⟩
  have HGV := Hold.mk hgv
  have HGB := Hold.mk hgb
  clear hgv hgb
  obtain ⟨gs, gi, gg, gt⟩ := gv
  obtain ⟨y0, y1, y2, y3⟩ := cells4W HX.out
  go_wp2_with fail
  clear y0 y1 y2 y3
  refine (wGet_any l _ s i w8 HL.out).mono ?_
  rintro e w10 hgp
  obtain ⟨he, hbr⟩ := get_post hgp
  rw [HGV.out, HGB.out] at he
  unfold WR.cells at he
  simp only at he
  subst he
  obtain ⟨W11, hW11⟩ : ∃ W11, W11 = w10.alloc (.cells #[.int .i64 gs, .string gi, .bool gg, .string gt] 58) := ⟨_, rfl⟩
  have hb11 : Below w10.heap.size w10 W11 := by rw [hW11]; exact (Below.refl _ w10).alloc (Nat.le_refl _) _
  have HY : Hold (W11.heap[w10.heap.size]? = some (.cells #[.int .i64 gs, .string gi, .bool gg, .string gt] 58 (0, 0))) := ⟨by rw [hW11]; exact heap_alloc_new w10 _⟩
  have hbr2 := hbr.trans (hb11.mono hbr.size)
  replace HB := Hold.mk (HB.out.trans (hbr2.mono HB.out.size))
  replace HX := Hold.mk (keptR HX.out hbr2)
  replace HL := Hold.mk (HL.out.mono RW_mono (cle_below hbr2))
  replace HPV := Hold.mk (HPV.out.mono RW_mono (cle_below hbr2))
  replace HQV := Hold.mk (HQV.out.mono RW_mono (cle_below hbr2))
  clear hbr hbr2 hb11 hgp
  go_upto_region 6 with (fail)
  rw [← hW11]
  clear hW11
  go_cut [11, 12] (fun s11 s12 wx => GBox W11 60 ⟨gs, gi, gg, gt⟩ gb s11 s12 wx)
  case first =>
    have HL11 := Hold.mk (HL.out)
    obtain ⟨y0, y1, y2, y3⟩ := cells4W HX.out
    have g0 := Grow.cell y0
    have g1 := Grow.cell y1
    clear y0 y1 y2 y3
    refine wp_region_mix 13 rfl (by kernel_rfl) ?_
    rintro w12 hb12
    have HG := Hold.mk hb12
    clear hb12
    refine mixl_seg (by kernel_rfl) (fun _ _ d _ _ h => by cases d <;> exact h) [0, 2, 3, 4, 5] [_, _, _, _, _] 8 13 rfl _ _ _ rfl (by kernel_rfl) (growC HG.out) ?_
    repeat (go_big_quiet_step (fail))
    refine wpQuiet_nil ?_
    clear g0 g1
    refine mixl_two (i := 1) (j := 10) rfl rfl (by kernel_rfl) (growC HG.out) rfl rfl (fun K hK => ?_) (fun K hK => ?_)
    · go_wp2_with fail
      refine (wplain_any l _ w12 (HL11.out.mono RW_mono (cle_below HG.out)) (by omega)).mono ?_
      rintro e w13 ⟨sv, rfl, hsv, hbq⟩
      obtain ⟨sa, scap, rfl⟩ := hsv.form
      have HSV := Hold.mk hsv
      replace HG := Hold.mk (HG.out.trans (hbq.mono HG.out.size))
      clear hbq hsv
      go_wp2_with fail
      refine mixl_two (i := 6) (j := 10) rfl rfl (by kernel_rfl) (growC HG.out) rfl rfl (fun K hK => ?_) (fun K hK => ?_)
      · go_wp2_with fail
        refine (wrGet_any l _ s i w13 HSV.out).mono ?_
        rintro e w14 hgp
        obtain ⟨he, hbr⟩ := get_post hgp
        rw [HGV.out, HGB.out] at he
        unfold WR.cells at he
        simp only at he
        subst he
        replace HG := Hold.mk (HG.out.trans (hbr.mono HG.out.size))
        clear hgp
        clear hbr
        go_wp2_with fail
        refine mixl_seg (by kernel_rfl) (fun _ _ d _ _ h => by cases d <;> exact h) [7, 8, 9] [_, _, _] 3 6 rfl _ _ _ rfl (by kernel_rfl) (growC HG.out) ?_
        repeat (go_big_quiet_step (fail))
        refine wpQuiet_nil ?_
        refine mixl_act (i := 10) rfl (by kernel_rfl) (growC HG.out) rfl (fun K hK => ?_)
        have HWS : Hold (W11.heap.size ≤ w14.heap.size) := ⟨HG.out.size⟩
        go_wp2_with fail
        have HZB := Hold.mk (heap_alloc_new w14 (.cells zeroW 60))
        replace HG := Hold.mk (HG.out.alloc HG.out.size (.cells zeroW 60))
        have HWL : Hold (W11.heap.size ≤ w14.heap.size) := ⟨HWS.out⟩
        generalize hzb : w14.heap.size = zb at HZB HWL ⊢
        generalize w14.alloc (.cells zeroW 60) = w15 at HG HZB ⊢
        refine mixl_act (i := 11) rfl (by kernel_rfl) (growC HG.out) rfl (fun K hK => ?_)
        obtain ⟨v0, v1, v2, v3⟩ := cells4W HZB.out
        have q0 := freeR HZB.out 0
        have q1 := freeR HZB.out 1
        have q2 := freeR HZB.out 2
        have q3 := freeR HZB.out 3
        go_wp2_with fail
        clear v0 v1 v2 v3 q0 q1 q2 q3
        have HZ6 := Hold.mk (set4Z_self (c0 := .int .i64 gs) (c1 := .string gi) (c2 := .bool gg) (c3 := .string gt) HZB.out)
        replace HG := Hold.mk (set4Z_below (k := zb) (c0 := .int .i64 gs) (c1 := .string gi) (c2 := .bool gg) (c3 := .string gt) HG.out HWL.out)
        unfold set4Z at HZ6 HG
        generalize hw8 : (((w15.setCell ⟨zb, 0, none⟩ (.int .i64 gs)).setCell ⟨zb, 1, none⟩ (.string gi)).setCell ⟨zb, 2, none⟩ (.bool gg)).setCell ⟨zb, 3, none⟩ (.string gt) = w88 at HZ6 HG ⊢
        clear hw8
        refine mixl_seg (by kernel_rfl) (fun _ _ d _ _ h => by cases d <;> exact h) [12] [_] 0 1 rfl _ _ _ rfl (by kernel_rfl) (growC HG.out) ?_
        repeat (go_big_quiet_step (fail))
        refine wpQuiet_nil ?_
        refine mix_done (by kernel_rfl) (growC HG.out) ?_
        have HVX : Hold (GBox W11 60 ⟨gs, gi, gg, gt⟩ gb (.pointer (some ⟨zb, 0, none⟩)) (.bool gb) w88) := ⟨_, rfl, rfl, HZ6.out, HG.out⟩
        go_wp2_with fail
        go_meet
        case rel => exact HVX.out
      · have HWS : Hold (W11.heap.size ≤ w13.heap.size) := ⟨HG.out.size⟩
        have hbz := (Below.refl _ w13).alloc (Nat.le_refl _) (.cells zeroW 60)
        replace HSV := Hold.mk (HSV.out.mono RW_mono (cle_below hbz))
        clear hbz
        go_wp2_with fail
        have HZB := Hold.mk (heap_alloc_new w13 (.cells zeroW 60))
        replace HG := Hold.mk (HG.out.alloc HG.out.size (.cells zeroW 60))
        have HWL : Hold (W11.heap.size ≤ w13.heap.size) := ⟨HWS.out⟩
        generalize hzb : w13.heap.size = zb at HZB HWL ⊢
        generalize w13.alloc (.cells zeroW 60) = w14 at HG HZB HSV ⊢
        refine mixl_act (i := 6) rfl (by kernel_rfl) (growC HG.out) rfl (fun K hK => ?_)
        go_wp2_with fail
        refine (wrGet_any l _ s i w14 HSV.out).mono ?_
        rintro e w15 hgp
        obtain ⟨he, hbr⟩ := get_post hgp
        rw [HGV.out, HGB.out] at he
        unfold WR.cells at he
        simp only at he
        subst he
        replace HG := Hold.mk (HG.out.trans (hbr.mono HG.out.size))
        clear hgp
        replace HZB := Hold.mk (keptR HZB.out hbr)
        clear hbr
        go_wp2_with fail
        refine mixl_seg (by kernel_rfl) (fun _ _ d _ _ h => by cases d <;> exact h) [7, 8, 9] [_, _, _] 2 5 rfl _ _ _ rfl (by kernel_rfl) (growC HG.out) ?_
        repeat (go_big_quiet_step (fail))
        refine wpQuiet_nil ?_
        refine mixl_act (i := 11) rfl (by kernel_rfl) (growC HG.out) rfl (fun K hK => ?_)
        obtain ⟨v0, v1, v2, v3⟩ := cells4W HZB.out
        have q0 := freeR HZB.out 0
        have q1 := freeR HZB.out 1
        have q2 := freeR HZB.out 2
        have q3 := freeR HZB.out 3
        go_wp2_with fail
        clear v0 v1 v2 v3 q0 q1 q2 q3
        have HZ6 := Hold.mk (set4Z_self (c0 := .int .i64 gs) (c1 := .string gi) (c2 := .bool gg) (c3 := .string gt) HZB.out)
        replace HG := Hold.mk (set4Z_below (k := zb) (c0 := .int .i64 gs) (c1 := .string gi) (c2 := .bool gg) (c3 := .string gt) HG.out HWL.out)
        unfold set4Z at HZ6 HG
        generalize hw8 : (((w15.setCell ⟨zb, 0, none⟩ (.int .i64 gs)).setCell ⟨zb, 1, none⟩ (.string gi)).setCell ⟨zb, 2, none⟩ (.bool gg)).setCell ⟨zb, 3, none⟩ (.string gt) = w88 at HZ6 HG ⊢
        clear hw8
        refine mixl_seg (by kernel_rfl) (fun _ _ d _ _ h => by cases d <;> exact h) [12] [_] 0 1 rfl _ _ _ rfl (by kernel_rfl) (growC HG.out) ?_
        repeat (go_big_quiet_step (fail))
        refine wpQuiet_nil ?_
        refine mix_done (by kernel_rfl) (growC HG.out) ?_
        have HVX : Hold (GBox W11 60 ⟨gs, gi, gg, gt⟩ gb (.pointer (some ⟨zb, 0, none⟩)) (.bool gb) w88) := ⟨_, rfl, rfl, HZ6.out, HG.out⟩
        go_wp2_with fail
        go_meet
        case rel => exact HVX.out
    · have HWS : Hold (W11.heap.size ≤ w12.heap.size) := ⟨HG.out.size⟩
      go_wp2_with fail
      have HZB := Hold.mk (heap_alloc_new w12 (.cells zeroW 60))
      replace HG := Hold.mk (HG.out.alloc HG.out.size (.cells zeroW 60))
      have HWL : Hold (W11.heap.size ≤ w12.heap.size) := ⟨HWS.out⟩
      generalize hzb : w12.heap.size = zb at HZB HWL ⊢
      generalize w12.alloc (.cells zeroW 60) = w13 at HG HZB ⊢
      refine mixl_act (i := 1) rfl (by kernel_rfl) (growC HG.out) rfl (fun K hK => ?_)
      go_wp2_with fail
      refine (wplain_any l _ w13 (HL11.out.mono RW_mono (cle_below HG.out)) (by omega)).mono ?_
      rintro e w14 ⟨sv, rfl, hsv, hbq⟩
      obtain ⟨sa, scap, rfl⟩ := hsv.form
      have HSV := Hold.mk hsv
      replace HG := Hold.mk (HG.out.trans (hbq.mono HG.out.size))
      replace HZB := Hold.mk (keptR HZB.out hbq)
      clear hbq hsv
      go_wp2_with fail
      refine mixl_act (i := 6) rfl (by kernel_rfl) (growC HG.out) rfl (fun K hK => ?_)
      go_wp2_with fail
      refine (wrGet_any l _ s i w14 HSV.out).mono ?_
      rintro e w15 hgp
      obtain ⟨he, hbr⟩ := get_post hgp
      rw [HGV.out, HGB.out] at he
      unfold WR.cells at he
      simp only at he
      subst he
      replace HG := Hold.mk (HG.out.trans (hbr.mono HG.out.size))
      clear hgp
      replace HZB := Hold.mk (keptR HZB.out hbr)
      clear hbr
      go_wp2_with fail
      refine mixl_seg (by kernel_rfl) (fun _ _ d _ _ h => by cases d <;> exact h) [7, 8, 9] [_, _, _] 2 5 rfl _ _ _ rfl (by kernel_rfl) (growC HG.out) ?_
      repeat (go_big_quiet_step (fail))
      refine wpQuiet_nil ?_
      refine mixl_act (i := 11) rfl (by kernel_rfl) (growC HG.out) rfl (fun K hK => ?_)
      obtain ⟨v0, v1, v2, v3⟩ := cells4W HZB.out
      have q0 := freeR HZB.out 0
      have q1 := freeR HZB.out 1
      have q2 := freeR HZB.out 2
      have q3 := freeR HZB.out 3
      go_wp2_with fail
      clear v0 v1 v2 v3 q0 q1 q2 q3
      have HZ6 := Hold.mk (set4Z_self (c0 := .int .i64 gs) (c1 := .string gi) (c2 := .bool gg) (c3 := .string gt) HZB.out)
      replace HG := Hold.mk (set4Z_below (k := zb) (c0 := .int .i64 gs) (c1 := .string gi) (c2 := .bool gg) (c3 := .string gt) HG.out HWL.out)
      unfold set4Z at HZ6 HG
      generalize hw8 : (((w15.setCell ⟨zb, 0, none⟩ (.int .i64 gs)).setCell ⟨zb, 1, none⟩ (.string gi)).setCell ⟨zb, 2, none⟩ (.bool gg)).setCell ⟨zb, 3, none⟩ (.string gt) = w88 at HZ6 HG ⊢
      clear hw8
      refine mixl_seg (by kernel_rfl) (fun _ _ d _ _ h => by cases d <;> exact h) [12] [_] 0 1 rfl _ _ _ rfl (by kernel_rfl) (growC HG.out) ?_
      repeat (go_big_quiet_step (fail))
      refine wpQuiet_nil ?_
      refine mix_done (by kernel_rfl) (growC HG.out) ?_
      have HVX : Hold (GBox W11 60 ⟨gs, gi, gg, gt⟩ gb (.pointer (some ⟨zb, 0, none⟩)) (.bool gb) w88) := ⟨_, rfl, rfl, HZ6.out, HG.out⟩
      go_wp2_with fail
      go_meet
      case rel => exact HVX.out
  case rest =>
    obtain ⟨zb, rfl, rfl, hzb, hwx⟩ := hcut
    simp only at hzb
    have HZ := Hold.mk hzb
    replace HB := Hold.mk (HB.out.trans (hwx.mono HB.out.size))
    replace HY := Hold.mk (keptR HY.out hwx)
    replace HPV := Hold.mk (HPV.out.mono RW_mono (cle_below hwx))
    replace HQV := Hold.mk (HQV.out.mono RW_mono (cle_below hwx))
    clear hzb hwx
    generalize wc = wa at *
    have hpl : pr.length ≤ 1000000 := by rw [HPR.out]; exact putWR_len (by omega)
    have hpn2 : pn ≤ 1000000 := by rw [HPN.out]; exact hpl
    rw [HPN.out] at HPV HQV ⊢
    go_wp2_with fail
    refine (wplain_any pr _ wa HPV.out hpl).mono ?_
    rintro e w20 ⟨sv, rfl, hsv, hbq⟩
    obtain ⟨sa, scap, rfl⟩ := hsv.form
    have HSV := Hold.mk hsv
    replace HB := Hold.mk (HB.out.trans (hbq.mono HB.out.size))
    replace HY := Hold.mk (keptR HY.out hbq)
    replace HZ := Hold.mk (keptR HZ.out hbq)
    replace HQV := Hold.mk (HQV.out.mono RW_mono (cle_below hbq))
    clear hbq hsv HPV
    go_wp2_with fail
    refine (wrSame_eq pr _ _ w20 HSV.out HQV.out).mono ?_
    rintro e w21 ⟨rfl, hb21⟩
    have HBF := Hold.mk (HB.out.trans (hb21.mono HB.out.size))
    replace HY := Hold.mk (keptR HY.out hb21)
    replace HZ := Hold.mk (keptR HZ.out hb21)
    clear hb21 HSV HQV
    have hq : ∀ w, (binOp .eql 60 (.agg #[.int .i64 gs, .string gi, .bool gg, .string gt]) (.agg #[.int .i64 gs, .string gi, .bool gg, .string gt])).run Tryz.prog w = .ok (.bool true) w := fun w => by
      rw [eqlR, (eqW_iff _ _).2 rfl]
    obtain ⟨y0, y1, y2, y3⟩ := cells4W HY.out
    obtain ⟨z0, z1, z2, z3⟩ := cells4W HZ.out
    go_wp2_with fail
    go_ret
    exact ⟨by simp, HBF.out⟩

end Go.Proofs.YtkhhbckpddkhlaaGreatDoor
