/- Writes: WritesLast walked. (printed by genXWL.py) -/
import Derived.Test.YtkhhbckpddkhlaaGreatDoorWK
namespace Go.Proofs.YtkhhbckpddkhlaaGreatDoor
open Go.Shelf Go.RowKit

theorem satW_two (w : World) (x v : WR) (T : TypeId) (hx : ∀ c, RW c x x.cells.toList) (hv : ∀ c, RW c v v.cells.toList) : SAt 4 RW (cf (w.alloc (.cells (x.cells ++ v.cells) T))) (.slice (some ⟨w.heap.size, 0, none⟩) 2 2) [x, v] := by
  have h := heap_alloc_new w (.cells (x.cells ++ v.cells) T)
  have hsz : x.cells.size = 4 := rfl
  have hcell : ∀ (j : Nat), (w.alloc (.cells (x.cells ++ v.cells) T)).cell? ⟨w.heap.size, j, none⟩ = (x.cells ++ v.cells)[j]? := fun j => by
    simp only [World.cell?]
    rw [h]
    rfl
  refine ⟨_, 2, rfl, Nat.le_refl _, by decide, fun i y hy => ?_⟩
  match i, hy with
  | 0, hy =>
    obtain rfl : x = y := by simpa using hy
    refine ⟨_, 0, x.cells.toList, rfl, rfl, fun j u hu => ?_, hx _⟩
    unfold cf
    have hj : j < 4 := (List.getElem?_eq_some_iff.1 hu).1
    rw [hcell, Array.getElem?_append_left (by rw [hsz]; omega)]
    simpa using hu
  | 1, hy =>
    obtain rfl : v = y := by simpa using hy
    refine ⟨_, 0, v.cells.toList, rfl, rfl, fun j u hu => ?_, hv _⟩
    unfold cf
    rw [hcell, Array.getElem?_append_right (by rw [hsz]; omega), hsz, show 0 + 1 * 4 + j - 4 = j by omega]
    simpa using hu

set_option maxRecDepth 100000 in
set_option maxHeartbeats 16000000 in
theorem writesLast_walk (l : List WR) (lv : Value) (x v : WR) (w : World) (hl : SAt 4 RW (cf w) lv l) (hx : x.id.size ≤ 9223372036854775807 ∧ x.text.size ≤ 9223372036854775807 ∧ (Lit.int .i64 x.sp).wf = true) (hv : v.id.size ≤ 9223372036854775807 ∧ v.text.size ≤ 9223372036854775807 ∧ (Lit.int .i64 v.sp).wf = true) (hT : Tabs w) (hP : Pow w.heap.size w) (hE : Errs w.heap.size w) :
    Calls Tryz.prog 7 #[lv, .agg x.cells, .agg v.cells] w fun e w' => e = .returned (.bool true) ∧ Below w.heap.size w w' := by
  have HRX : Hold (∀ c, RW c x x.cells.toList) := ⟨fun c => ⟨rfl, hx⟩⟩
  have HRV : Hold (∀ c, RW c v v.cells.toList) := ⟨fun c => ⟨rfl, hv⟩⟩
  have HLV := Hold.mk hl
  have HWF := Hold.mk hx.2.2
  obtain ⟨la, lcap, rfl, hle, hcap, _⟩ := hl
  obtain ⟨s, i, g, t⟩ := x
  obtain ⟨s2, i2, g2, t2⟩ := v
  have HT := Hold.mk hT
  have HP := Hold.mk hP
  have HER := Hold.mk hE
  have HONE := Hold.mk (fun w => satW_one w ⟨s, i, g, t⟩ 58 HRX.out)
  have HTWO := Hold.mk (fun w => satW_two w ⟨s, i, g, t⟩ ⟨s2, i2, g2, t2⟩ 58 HRX.out HRV.out)
  unfold WR.cells at HONE HTWO ⊢
  simp only [List.append_toArray, List.cons_append, List.nil_append] at HONE HTWO HWF ⊢
  have H2 := TwoB.refl w #[.int .i64 s, .string i, .bool g, .string t] #[.int .i64 s2, .string i2, .bool g2, .string t2] 58 58
  obtain ⟨W, hW⟩ : ∃ W, W = ((w.alloc (.cells #[.int .i64 s, .string i, .bool g, .string t] 58)).alloc (.cells #[.int .i64 s2, .string i2, .bool g2, .string t2] 58)) := ⟨_, rfl⟩
  rw [← hW] at H2
  have HX := Hold.mk H2.one
  have HV := Hold.mk H2.two
  have HB := Hold.mk H2.bel
  clear hT hP hE hx hv H2
  go_enter Tryz.func7, Tryz.ntmps7
  go_upto_region 1 with (fail)
  rw [← hW]
  clear hW
  go_wp2_with fail
  refine (wawake_any W (HT.out.below HB.out) (Pow.below HP.out HB.out) (errs_after HER.out HB.out)).mono ?_
  rintro e w2 ⟨rfl, hb2⟩
  replace HB := Hold.mk (HB.out.trans (hb2.mono HB.out.size))
  replace HX := Hold.mk (keptR HX.out hb2)
  replace HV := Hold.mk (keptR HV.out hb2)
  clear hb2
  go_wp2_with fail
  refine (wfew_any l _ w2 (HLV.out.mono RW_mono (cle_below HB.out))).mono ?_
  rintro e w3 ⟨b, rfl, hbb, hb3⟩
  replace HB := Hold.mk (HB.out.trans (hb3.mono HB.out.size))
  replace HX := Hold.mk (keptR HX.out hb3)
  replace HV := Hold.mk (keptR HV.out hb3)
  have HBB := Hold.mk hbb
  clear hb3 hbb
  cases b with
  | false =>
    go_wp2_with fail
    refine (wawake_any w3 (HT.out.below HB.out) (Pow.below HP.out HB.out) (errs_after HER.out HB.out)).mono ?_
    rintro e w9 ⟨rfl, hb9⟩
    have HBF := HB.out.trans (hb9.mono HB.out.size)
    clear hb9
    go_wp2_with fail
    go_ret
    exact ⟨rfl, HBF⟩
  | true =>
  obtain ⟨h30, hsm⟩ := HBB.out rfl
  have HS := Hold.mk hsm
  clear HBB hsm
  obtain ⟨y0, y1, y2, y3⟩ := cells4W HX.out
  obtain ⟨z0, z1, z2, z3⟩ := cells4W HV.out
  go_wp2_with fail
  clear y0 y1 y2 y3 z0 z1 z2 z3
  refine (wfew_any [⟨s, i, g, t⟩, ⟨s2, i2, g2, t2⟩] _ _ (HTWO.out w3)).mono ?_
  rintro e w4 ⟨b, rfl, hbb, hb4⟩
  have hb34 := ((Below.refl _ w3).alloc (Nat.le_refl _) (.cells #[.int .i64 s, .string i, .bool g, .string t, .int .i64 s2, .string i2, .bool g2, .string t2] 58)).trans (hb4.mono (by simp))
  replace HB := Hold.mk (HB.out.trans (hb34.mono HB.out.size))
  replace HX := Hold.mk (keptR HX.out hb34)
  replace HV := Hold.mk (keptR HV.out hb34)
  have HBB := Hold.mk hbb
  clear hb4 hbb hb34
  cases b with
  | false =>
    go_wp2_with fail
    refine (wawake_any w4 (HT.out.below HB.out) (Pow.below HP.out HB.out) (errs_after HER.out HB.out)).mono ?_
    rintro e w9 ⟨rfl, hb9⟩
    have HBF := HB.out.trans (hb9.mono HB.out.size)
    clear hb9
    go_wp2_with fail
    go_ret
    exact ⟨rfl, HBF⟩
  | true =>
  obtain ⟨hx1, hx2⟩ := (HBB.out rfl).2 ⟨s, i, g, t⟩ (by simp)
  simp only at hx1 hx2
  clear HBB
  have HSP : Hold (∀ x ∈ l, x.id.size ≤ 1000000 ∧ x.text.size ≤ 1000000) := ⟨fun x hx => by have := HS.out x hx; omega⟩
  obtain ⟨pr, hpr⟩ : ∃ pr, pr = putWR l ⟨s, i, g, t⟩ := ⟨_, rfl⟩
  obtain ⟨pe, hpe⟩ : ∃ pe, pe = putWE l ⟨s, i, g, t⟩ := ⟨_, rfl⟩
  have HPU := Hold.mk (wPut_any l _ ⟨s, i, g, t⟩ w4 (HLV.out.mono RW_mono (cle_below HB.out)) HSP.out (by simp only; omega) (by simp only; omega) HWF.out (HT.out.below HB.out) (Pow.below HP.out HB.out) (errs_after HER.out HB.out))
  unfold PutPost at HPU
  rw [← hpr, ← hpe] at HPU
  obtain ⟨y0, y1, y2, y3⟩ := cells4W HX.out
  obtain ⟨z0, z1, z2, z3⟩ := cells4W HV.out
  go_wp2_with fail
  clear y0 y1 y2 y3 z0 z1 z2 z3
  refine HPU.out.mono ?_
  rintro e w5 ⟨pv, rfl, hpv, hb5⟩
  obtain ⟨pa, pcap, rfl⟩ := hpv.form
  have HPV := Hold.mk hpv
  replace HB := Hold.mk (HB.out.trans (hb5.mono HB.out.size))
  replace HX := Hold.mk (keptR HX.out hb5)
  replace HV := Hold.mk (keptR HV.out hb5)
  have HL := Hold.mk (HLV.out.mono RW_mono (cle_below HB.out))
  clear hb5 hpv HPU
  by_cases hpe0 : pe = 0
  · have he0 : putWE l ⟨s, i, g, t⟩ = 0 := by rw [← hpe]; exact hpe0
    subst hpe0
    obtain rfl : pr = putWL ⟨s, i, g, t⟩ l := by rw [hpr]; unfold putWR; rw [if_pos he0]
    have HE0 := Hold.mk he0
    have hpl := putWR_len (l := l) (x := ⟨s, i, g, t⟩) (n := 31) (by omega)
    rw [← hpr] at hpl
    have HSQ : Hold (∀ y ∈ putWL ⟨s, i, g, t⟩ l, y.id.size ≤ 1000000 ∧ y.text.size ≤ 1000000) := ⟨fun y hy => by
      rcases put_mem hy with rfl | hy
      · exact ⟨by simp only; omega, by simp only; omega⟩
      · exact HSP.out y hy⟩
    have HGOT := Hold.mk (put_got (x := ⟨s, i, g, t⟩) (l := l))
    have HMEET := Hold.mk (put_meets (x := ⟨s, i, g, t⟩) (l := l))
    have HAG := Hold.mk (put_again HE0.out)
    have HFM := Hold.mk (put_formed HE0.out)
    have HOTH := Hold.mk (fun (h : hitW ⟨s, i, g, t⟩ s2 i2 = false) => put_other (l := l) h)
    simp only at HGOT
    generalize putWL ⟨s, i, g, t⟩ l = pr at *
    clear hpr hpe he0
    have HGV : Hold (getV pr s i = ⟨s, i, g, t⟩) := ⟨by unfold getV; rw [HGOT.out]; rfl⟩
    have HGB : Hold (getB pr s i = true) := ⟨by unfold getB; rw [HGOT.out]; rfl⟩
    obtain ⟨av, hav⟩ : ∃ av, getV l s2 i2 = av := ⟨_, rfl⟩
    obtain ⟨ab, hab⟩ : ∃ ab, getB l s2 i2 = ab := ⟨_, rfl⟩
    obtain ⟨cv, hcv⟩ : ∃ cv, getV pr s2 i2 = cv := ⟨_, rfl⟩
    obtain ⟨cb, hcb⟩ : ∃ cb, getB pr s2 i2 = cb := ⟨_, rfl⟩
    have HSAME : Hold (hitW ⟨s, i, g, t⟩ s2 i2 = false → av = cv ∧ ab = cb) := ⟨fun h => by
      have := HOTH.out h
      rw [← hav, ← hab, ← hcv, ← hcb]
      unfold getV getB
      rw [this]
      exact ⟨rfl, rfl⟩⟩
    have HAV9 := Hold.mk hav
    have HAB9 := Hold.mk hab
    have HCV9 := Hold.mk hcv
    have HCB9 := Hold.mk hcb
    clear hav hab hcv hcb HOTH HGOT HE0
    obtain ⟨rs, ri, rg, rt⟩ := av
    obtain ⟨cs, ci, cg, ct⟩ := cv
    obtain ⟨pn, hpn⟩ : ∃ pn, pn = pr.length := ⟨_, rfl⟩
    have HPN := Hold.mk hpn
    rw [← hpn] at HPV hpl ⊢
    clear hpn
    obtain ⟨y0, y1, y2, y3⟩ := cells4W HX.out
    obtain ⟨z0, z1, z2, z3⟩ := cells4W HV.out
    go_wp2_with fail
    clear y0 y1 y2 y3 z0 z1 z2 z3
    refine (wGet_any pr _ s i w5 HPV.out).mono ?_
    rintro e w10 hgp
    obtain ⟨he, hbr⟩ := get_post hgp
    rw [HGV.out, HGB.out] at he
    unfold WR.cells at he
    simp only at he
    subst he
    obtain ⟨Ww10, hW9⟩ : ∃ W9, W9 = w10.alloc (.cells #[.int .i64 s, .string i, .bool g, .string t] 58) := ⟨_, rfl⟩
    have hb11 : Below w10.heap.size w10 Ww10 := by rw [hW9]; exact (Below.refl _ w10).alloc (Nat.le_refl _) _
    have HQ : Hold (Ww10.heap[w10.heap.size]? = some (.cells #[.int .i64 s, .string i, .bool g, .string t] 58 (0, 0))) := ⟨by rw [hW9]; exact heap_alloc_new w10 _⟩
    have hbr2 := hbr.trans (hb11.mono hbr.size)
    replace HB := Hold.mk (HB.out.trans (hbr2.mono HB.out.size))
    replace HX := Hold.mk (keptR HX.out hbr2)
    replace HV := Hold.mk (keptR HV.out hbr2)
    replace HPV := Hold.mk (HPV.out.mono RW_mono (cle_below hbr2))
    replace HL := Hold.mk (HL.out.mono RW_mono (cle_below hbr2))
    clear hbr hbr2 hb11 hgp
    go_upto_region 7 with (fail)
    rw [← hW9]
    clear hW9
    have hq1 : ∀ w, (binOp .neq 58 (.agg #[.int .i64 s, .string i, .bool g, .string t]) (.agg #[.int .i64 s, .string i, .bool g, .string t])).run Tryz.prog w = .ok (.bool false) w := fun w => by
      rw [neqP, (eqW_iff _ _).2 rfl]; rfl
    obtain ⟨x0, x1, x2, x3⟩ := cells4W HQ.out
    obtain ⟨y0, y1, y2, y3⟩ := cells4W HX.out
    obtain ⟨z0, z1, z2, z3⟩ := cells4W HV.out
    go_wp2_with fail
    clear y0 y1 y2 y3 z0 z1 z2 z3 x0 x1 x2 x3
    have HPL : Hold (SAt 4 RW (cf Ww10) (.slice pa pr.length pcap) pr) := ⟨by rw [← HPN.out]; exact HPV.out⟩
    have HFC := Hold.mk (wFormed_any pr _ Ww10 HPL.out HSQ.out (HT.out.below HB.out) (Pow.below HP.out HB.out) (errs_after HER.out HB.out))
    rw [← HPN.out] at HFC
    clear HPL
    refine HFC.out.mono ?_
    rintro e w12 ⟨rfl, hb12⟩
    replace HB := Hold.mk (HB.out.trans (hb12.mono HB.out.size))
    replace HX := Hold.mk (keptR HX.out hb12)
    replace HV := Hold.mk (keptR HV.out hb12)
    replace HPV := Hold.mk (HPV.out.mono RW_mono (cle_below hb12))
    replace HL := Hold.mk (HL.out.mono RW_mono (cle_below hb12))
    rw [HFM.out]
    clear hb12 HFC hq1
    obtain ⟨y0, y1, y2, y3⟩ := cells4W HX.out
    obtain ⟨z0, z1, z2, z3⟩ := cells4W HV.out
    go_wp2_with fail
    clear y0 y1 y2 y3 z0 z1 z2 z3
    refine (wGet_any l _ s2 i2 w12 HL.out).mono ?_
    rintro e w14 hgp
    obtain ⟨he, hbr⟩ := get_post hgp
    rw [HAV9.out, HAB9.out] at he
    unfold WR.cells at he
    simp only at he
    subst he
    obtain ⟨Ww14, hW9⟩ : ∃ W9, W9 = w14.alloc (.cells #[.int .i64 rs, .string ri, .bool rg, .string rt] 58) := ⟨_, rfl⟩
    have hb11 : Below w14.heap.size w14 Ww14 := by rw [hW9]; exact (Below.refl _ w14).alloc (Nat.le_refl _) _
    have HA : Hold (Ww14.heap[w14.heap.size]? = some (.cells #[.int .i64 rs, .string ri, .bool rg, .string rt] 58 (0, 0))) := ⟨by rw [hW9]; exact heap_alloc_new w14 _⟩
    have hbr2 := hbr.trans (hb11.mono hbr.size)
    replace HB := Hold.mk (HB.out.trans (hbr2.mono HB.out.size))
    replace HX := Hold.mk (keptR HX.out hbr2)
    replace HV := Hold.mk (keptR HV.out hbr2)
    replace HPV := Hold.mk (HPV.out.mono RW_mono (cle_below hbr2))
    replace HL := Hold.mk (HL.out.mono RW_mono (cle_below hbr2))
    clear hbr hbr2 hb11 hgp
    go_upto_region 10 with (fail)
    rw [← hW9]
    clear hW9
    obtain ⟨y0, y1, y2, y3⟩ := cells4W HX.out
    obtain ⟨z0, z1, z2, z3⟩ := cells4W HV.out
    go_wp2_with fail
    clear y0 y1 y2 y3 z0 z1 z2 z3
    refine (wGet_any pr _ s2 i2 Ww14 HPV.out).mono ?_
    rintro e w16 hgp
    obtain ⟨he, hbr⟩ := get_post hgp
    rw [HCV9.out, HCB9.out] at he
    unfold WR.cells at he
    simp only at he
    subst he
    obtain ⟨Ww16, hW9⟩ : ∃ W9, W9 = w16.alloc (.cells #[.int .i64 cs, .string ci, .bool cg, .string ct] 58) := ⟨_, rfl⟩
    have hb11 : Below w16.heap.size w16 Ww16 := by rw [hW9]; exact (Below.refl _ w16).alloc (Nat.le_refl _) _
    have HC : Hold (Ww16.heap[w16.heap.size]? = some (.cells #[.int .i64 cs, .string ci, .bool cg, .string ct] 58 (0, 0))) := ⟨by rw [hW9]; exact heap_alloc_new w16 _⟩
    have hbr2 := hbr.trans (hb11.mono hbr.size)
    replace HB := Hold.mk (HB.out.trans (hbr2.mono HB.out.size))
    replace HX := Hold.mk (keptR HX.out hbr2)
    replace HV := Hold.mk (keptR HV.out hbr2)
    replace HPV := Hold.mk (HPV.out.mono RW_mono (cle_below hbr2))
    replace HL := Hold.mk (HL.out.mono RW_mono (cle_below hbr2))
    replace HA := Hold.mk (keptR HA.out hbr2)
    clear hbr hbr2 hb11 hgp
    go_upto_region 11 with (fail)
    rw [← hW9]
    clear hW9
    obtain ⟨u0, u1, u2, u3⟩ := cells4W HA.out
    obtain ⟨v0, v1, v2, v3⟩ := cells4W HC.out
    obtain ⟨y0, y1, y2, y3⟩ := cells4W HX.out
    obtain ⟨z0, z1, z2, z3⟩ := cells4W HV.out
    have HPUT := Hold.mk (wPut_any pr (.slice pa pn pcap) ⟨s, i, g, t⟩ Ww16 HPV.out HSQ.out (by simp only; omega) (by simp only; omega) HWF.out (HT.out.below HB.out) (Pow.below HP.out HB.out) (errs_after HER.out HB.out))
    unfold PutPost at HPUT
    rw [HAG.out.1, HAG.out.2] at HPUT
    have HBM : Hold (∀ (w : World) (lv mv : Value), SAt 4 RW (cf w) lv pr → SAt 4 RW (cf w) mv [⟨s, i, g, t⟩] → Calls Tryz.prog 36 #[lv, mv] w fun e w' => e = .returned (.bool true) ∧ Below w.heap.size w w') := ⟨fun w lv mv h1 h2 => by
      have := wMeet_any pr [⟨s, i, g, t⟩] lv mv w h1 h2
      rw [HMEET.out] at this
      exact this⟩
    go_upto_region 11 with (fail)
    go_cut [103] (fun s103 wx => s103 = .bool false ∧ wx = Ww16)
    case first =>
      cases hh : hitW ⟨s, i, g, t⟩ s2 i2 with
      | true =>
        obtain ⟨e1, e2⟩ := hit_yes hh
        subst e1
        have e3 : (i2.toList == i.toList) = true := by
          rw [beq_iff_eq] at e2 ⊢; exact e2.symm
        clear hh
        go_wp2_with fail
        go_meet
        case rel => exact ⟨rfl, rfl⟩
      | false =>
        obtain ⟨e5, e6⟩ := HSAME.out hh
        subst e6
        obtain ⟨rfl, rfl, rfl, rfl⟩ : rs = cs ∧ ri = ci ∧ rg = cg ∧ rt = ct := by cases e5; exact ⟨rfl, rfl, rfl, rfl⟩
        have hq2 : ∀ w, (binOp .neq 58 (.agg #[.int .i64 rs, .string ri, .bool rg, .string rt]) (.agg #[.int .i64 rs, .string ri, .bool rg, .string rt])).run Tryz.prog w = .ok (.bool false) w := fun w => by
          rw [neqP, (eqW_iff _ _).2 rfl]; rfl
        by_cases e1 : s = s2
        · have e3 : (i2.toList == i.toList) = false := by
            have := hit_no e1 hh
            rw [beq_eq_false_iff_ne] at this ⊢
            exact fun h => this h.symm
          subst e1
          clear hh e5
          go_wp2_with fail
          all_goals
            go_meet
            case rel => exact ⟨rfl, rfl⟩
        · have e3 : (s2 != s) = true := by
            rw [bne_iff_ne]; exact fun h => e1 h.symm
          clear hh e5
          go_wp2_with fail
          all_goals
            go_meet
            case rel => exact ⟨rfl, rfl⟩
    case rest =>
      obtain ⟨rfl, rfl⟩ := hcut
      clear u0 u1 u2 u3 v0 v1 v2 v3
      obtain ⟨y0, y1, y2, y3⟩ := cells4W HX.out
      obtain ⟨z0, z1, z2, z3⟩ := cells4W HV.out
      go_wp2_with fail
      clear y0 y1 y2 y3 z0 z1 z2 z3
      refine HPUT.out.mono ?_
      rintro e w17 ⟨qv, rfl, hqv, hb17⟩
      obtain ⟨qa, qcap, rfl⟩ := hqv.form
      have HQV := Hold.mk hqv
      replace HB := Hold.mk (HB.out.trans (hb17.mono HB.out.size))
      replace HX := Hold.mk (keptR HX.out hb17)
      replace HV := Hold.mk (keptR HV.out hb17)
      replace HPV := Hold.mk (HPV.out.mono RW_mono (cle_below hb17))
      rw [← HPN.out] at HQV ⊢
      clear hb17 hqv HPUT
      go_wp2_with fail
      have hpq : SAt 4 RW (cf w17) (.slice pa pn pcap) pr := HPV.out
      refine (wplain_any pr _ w17 hpq (by rw [← HPN.out]; omega)).mono ?_
      rintro e w18 ⟨sv, rfl, hsv, hb18⟩
      obtain ⟨sa, scap, rfl⟩ := hsv.form
      have HSV := Hold.mk hsv
      replace HB := Hold.mk (HB.out.trans (hb18.mono HB.out.size))
      replace HX := Hold.mk (keptR HX.out hb18)
      replace HV := Hold.mk (keptR HV.out hb18)
      replace HPV := Hold.mk (HPV.out.mono RW_mono (cle_below hb18))
      replace HQV := Hold.mk (HQV.out.mono RW_mono (cle_below hb18))
      rw [← HPN.out] at HSV ⊢
      clear hb18 hsv hpq
      go_wp2_with fail
      refine (wplain_any pr _ w18 HQV.out (by rw [← HPN.out]; omega)).mono ?_
      rintro e w19 ⟨rv, rfl, hrv, hb19⟩
      obtain ⟨ra, rcap, rfl⟩ := hrv.form
      have HAV := Hold.mk hrv
      replace HB := Hold.mk (HB.out.trans (hb19.mono HB.out.size))
      replace HX := Hold.mk (keptR HX.out hb19)
      replace HV := Hold.mk (keptR HV.out hb19)
      replace HPV := Hold.mk (HPV.out.mono RW_mono (cle_below hb19))
      replace HSV := Hold.mk (HSV.out.mono RW_mono (cle_below hb19))
      rw [← HPN.out] at HAV ⊢
      clear hb19 hrv
      go_wp2_with fail
      refine (wrSame_eq pr _ _ w19 HSV.out HAV.out).mono ?_
      rintro e w20 ⟨rfl, hb20⟩
      replace HB := Hold.mk (HB.out.trans (hb20.mono HB.out.size))
      replace HX := Hold.mk (keptR HX.out hb20)
      replace HV := Hold.mk (keptR HV.out hb20)
      replace HPV := Hold.mk (HPV.out.mono RW_mono (cle_below hb20))
      clear hb20 HSV HAV
      obtain ⟨y0, y1, y2, y3⟩ := cells4W HX.out
      obtain ⟨z0, z1, z2, z3⟩ := cells4W HV.out
      go_wp2_with fail
      clear y0 y1 y2 y3 z0 z1 z2 z3
      refine (HBM.out _ _ _ (HPV.out.mono RW_mono (cle_below ((Below.refl _ w20).alloc (Nat.le_refl _) _))) (HONE.out w20)).mono ?_
      rintro e w21 ⟨rfl, hb21⟩
      have HBF := (HB.out.alloc HB.out.size (.cells #[.int .i64 s, .string i, .bool g, .string t] 58)).trans (hb21.mono (by have := HB.out.size; simp; omega))
      clear hb21
      go_wp2_with fail
      go_ret
      exact ⟨rfl, HBF⟩
  · obtain rfl : pr = [] := by rw [hpr]; unfold putWR; rw [if_neg (by rw [← hpe]; exact hpe0)]
    have hne : (pe != 0) = true := by simpa using hpe0
    have HBF := HB.out
    clear hpr hpe hpe0
    go_wp2_with fail
    go_ret
    exact ⟨rfl, HBF⟩

end Go.Proofs.YtkhhbckpddkhlaaGreatDoor
