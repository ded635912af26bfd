/- Answers: AnswerPages walked. (printed by genXBD.py) -/
import Derived.Test.YtkhhbckpddkhlaaDoorAY
import Derived.Test.YtkhhbckpddkhlaaDoorAG
import Derived.Test.YtkhhbckpddkhlaaDoorBH
import Derived.Deep.DeepCutAuto
namespace Go.Proofs.YtkhhbckpddkhlaaDoor
open Go.Shelf Go.RowKit

theorem cle_pages {w w8 w9 : World} {sl : Value} (h8 : Below w.heap.size w w8) (h9 : Below w8.heap.size w8 w9) (hs : ∀ g, sl.ownBlock = some g → w.heap.size ≤ g ∧ g < w8.heap.size) : CLe (cfR (cf w) w8.heap.size (cf w9)) (cfN sl w9) := fun b o v h => by
  unfold cfR at h
  unfold cfN
  split at h
  · have hb := lt_of_cell h
    rw [if_neg (fun e => by have := (hs b e).1; omega)]
    exact cle_below (h8.trans (h9.mono h8.size)) _ _ _ h
  · rw [if_neg (fun e => by have := (hs b e).2; omega)]; exact h
theorem runO_lenP (q : QR) (l : List DR) : (runO q l).length ≤ l.length := by
  unfold runO
  split
  · unfold outA pageA
    have h : (sortA q l).length ≤ l.length := by rw [(sortA_perm q l).length_eq]; exact List.length_filter_le _ _
    rw [List.length_map]
    split
    · rw [List.length_drop]; omega
    · rw [List.length_take, List.length_drop]; omega
  · exact Nat.zero_le _

set_option maxRecDepth 100000 in
set_option maxHeartbeats 32000000 in
theorem answerPages_walk (q : QR) (l : List DR) (d : List Value) (lv : Value) (at_ : Int) (w : World) (hq : QAt (cf w) q d) (hl : SAt 6 RD (cf w) lv l) (hat : (Lit.int .u8 at_).wf = true) (hT : Tabs w) :
    Calls Tryd.prog 4 #[.agg d.toArray, lv, .int .u8 at_] w fun e w' => e = .returned (.bool true) ∧ Below w.heap.size w w' := by
  obtain ⟨by0, hby0⟩ : ∃ b : Nat, at_ = (b : Int) ∧ b < 256 := by
    have : 0 ≤ at_ ∧ at_ < 256 := by
      simp [Lit.wf, IntKind.min, IntKind.max, IntKind.signed, IntKind.bits] at hat
      omega
    exact ⟨at_.toNat, by omega, by omega⟩
  obtain ⟨rfl, hb256⟩ := hby0
  clear hat
  have HQA := Hold.mk hq
  have HLA := Hold.mk hl
  obtain ⟨k, n, t, na, nl, nc, ia, il, ic, sv, fv, rfl, hj, hs, hf⟩ := hq
  have HJ := Hold.mk hj
  have HSO := Hold.mk hs
  have HFL := Hold.mk hf
  obtain ⟨sa, scap, rfl⟩ := hs.form
  obtain ⟨fa, fcap, rfl⟩ := hf.form
  obtain ⟨la, lcap, rfl⟩ := hl.form
  have HT := Hold.mk hT
  obtain ⟨W, hW⟩ : ∃ W, W = w.alloc (.cells #[.int .i64 k, .int .i64 n, .string t, .slice na nl nc, .slice ia il ic, .slice sa q.sort.length scap, .slice fa q.fields.length fcap, .int .i64 q.skip, .int .i64 q.lim] 28) := ⟨_, rfl⟩
  have hb : Below w.heap.size w W := by rw [hW]; exact (Below.refl _ w).alloc (Nat.le_refl _) _
  have HX : Hold (W.heap[w.heap.size]? = some (.cells #[.int .i64 k, .int .i64 n, .string t, .slice na nl nc, .slice ia il ic, .slice sa q.sort.length scap, .slice fa q.fields.length fcap, .int .i64 q.skip, .int .i64 q.lim] 28 (0, 0))) := ⟨by rw [hW]; exact heap_alloc_new w _⟩
  have HB := Hold.mk hb
  have HA := Hold.mk (awake16_any W (hT.below hb))
  clear hb hj hs hf hT
  go_enter Tryd.func4, Tryd.ntmps4
  go_upto_region 1 with (fail)
  rw [← hW]
  clear hW
  go_wp2_with fail
  refine HA.out.mono ?_
  rintro e w1 ⟨rfl, hb1⟩
  replace HX := Hold.mk (kept HX.out hb1)
  replace HB := Hold.mk (HB.out.trans (hb1.mono HB.out.size))
  clear hb1 HA
  have HF := Hold.mk (lfew_any q l _ _ w1 (HQA.out.mono (cle_below HB.out)) (HLA.out.mono RD_mono (cle_below HB.out)))
  obtain ⟨y0, y1, y2, y3, y4, y5, y6, y7, y8⟩ := cells9A HX.out
  go_wp2_with fail
  refine HF.out.mono ?_
  rintro e w2 ⟨fb, rfl, hfb, hb2⟩
  replace HX := Hold.mk (kept HX.out hb2)
  replace HB := Hold.mk (HB.out.trans (hb2.mono HB.out.size))
  have HFB := Hold.mk hfb
  clear hb2 hfb HF y0 y1 y2 y3 y4 y5 y6 y7 y8
  cases fb with
  | false =>
    have HA := Hold.mk (awake16_any w2 (HT.out.below HB.out))
    go_wp2_with fail
    refine HA.out.mono ?_
    rintro e w3 ⟨rfl, hb3⟩
    have HBF := HB.out.trans (hb3.mono HB.out.size)
    clear hb3 HA
    go_wp2_with fail
    go_ret
    exact ⟨rfl, HBF⟩
  | true =>
    have HSM := Hold.mk (HFB.out rfl)
    have hsz : ∀ o ∈ q.sort, o.path.size ≤ 1000000 := fun o ho => by have := HSM.out.paths o ho; omega
    have hfz : ∀ p ∈ q.fields, p.size ≤ 1000000 := fun p hp => by have := HSM.out.parts p hp; omega
    have hid : ∀ x ∈ l, x.id.size ≤ 1000000 := fun x hx => by have := HSM.out.ids x hx; omega
    have h40 : l.length ≤ 40 := HSM.out.docs
    have HSZ := Hold.mk hsz
    have HFZ := Hold.mk hfz
    have HID := Hold.mk hid
    have H40 := Hold.mk h40
    have HLL : Hold (l.length ≤ 1000000) := ⟨by omega⟩
    clear hsz hfz hid
    obtain ⟨y0, y1, y2, y3, y4, y5, y6, y7, y8⟩ := cells9A HX.out
    have f7 := free_box HX.out 7
    have f8 := free_box HX.out 8
    go_upto_region 5 with (fail)
    clear y0 y1 y2 y3 y4 y5 y6 y7 y8 f7 f8
    have HXN : Hold (((w2.setCell ⟨w.heap.size, 7, none⟩ (.int .i64 0)).setCell ⟨w.heap.size, 8, none⟩ (.int .i64 0)).heap[w.heap.size]? = some (.cells #[.int .i64 k, .int .i64 n, .string t, .slice na nl nc, .slice ia il ic, .slice sa q.sort.length scap, .slice fa q.fields.length fcap, .int .i64 0, .int .i64 0] 28 (0, 0))) := ⟨by
      have := set_self (o := 8) (c := .int .i64 0) (set_self (o := 7) (c := .int .i64 0) HX.out)
      simpa using this⟩
    have HBN : Hold (Below w.heap.size w ((w2.setCell ⟨w.heap.size, 7, none⟩ (.int .i64 0)).setCell ⟨w.heap.size, 8, none⟩ (.int .i64 0))) := ⟨(HB.out.setCell (p := ⟨w.heap.size, 7, none⟩) (Nat.le_refl _) _).setCell (p := ⟨w.heap.size, 8, none⟩) (Nat.le_refl _) _⟩
    generalize hw3 : (w2.setCell ⟨w.heap.size, 7, none⟩ (.int .i64 0)).setCell ⟨w.heap.size, 8, none⟩ (.int .i64 0) = w3 at HXN HBN ⊢
    clear hw3 HX HB
    have HX := HXN
    have HB := HBN
    clear HXN HBN
    have HQP : Hold (∀ s m : Int, QAt (cf w) { q with skip := s, lim := m } [.int .i64 k, .int .i64 n, .string t, .slice na nl nc, .slice ia il ic, .slice sa q.sort.length scap, .slice fa q.fields.length fcap, .int .i64 s, .int .i64 m]) := ⟨fun s m => ⟨k, n, t, na, nl, nc, ia, il, ic, _, _, rfl, HJ.out, HSO.out, HFL.out⟩⟩
    have HR := Hold.mk (qRun_any { q with skip := 0, lim := 0 } l _ _ w3 ((HQP.out 0 0).mono (cle_below HB.out)) (HLA.out.mono RD_mono (cle_below HB.out)) HLL.out HID.out HSZ.out HFZ.out (HT.out.below HB.out))
    obtain ⟨y0, y1, y2, y3, y4, y5, y6, y7, y8⟩ := cells9A HX.out
    go_wp2_with fail
    refine HR.out.mono ?_
    rintro e w4 ⟨ra, rfl, hra, hb4⟩
    replace HX := Hold.mk (kept HX.out hb4)
    replace HB := Hold.mk (HB.out.trans (hb4.mono HB.out.size))
    obtain ⟨er, her⟩ : ∃ er, runE { q with skip := 0, lim := 0 } l = er := ⟨_, rfl⟩
    rw [her]
    have HER := Hold.mk her
    obtain ⟨R, hR⟩ : ∃ R, R = runO { q with skip := 0, lim := 0 } l := ⟨_, rfl⟩
    rw [← hR] at hra
    have HRR := Hold.mk hR
    have hRL : R.length ≤ 40 := by rw [hR]; exact Nat.le_trans (runO_lenP _ _) h40
    obtain ⟨raa, rac, rfl⟩ := hra.form
    have HRA := Hold.mk hra
    clear hb4 HR her hR hra y0 y1 y2 y3 y4 y5 y6 y7 y8
    by_cases h0 : er = 0
    case neg =>
      have HBF := HB.out
      go_wp2_with fail
      go_ret
      exact ⟨rfl, HBF⟩
    subst h0
    by_cases hz : R.length = 0
    · have hzI : (R.length : Int) = 0 := by omega
      have HBF := HB.out
      clear hz
      go_wp2_with fail
      go_ret
      exact ⟨rfl, HBF⟩
    have hzI : ¬ (R.length : Int) = 0 := by omega
    have hzb : ((R.length : Int) == 0) = false := by simpa using hzI
    obtain ⟨kk, hkk⟩ : ∃ kk : Nat, kk = 1 + by0 % R.length := ⟨_, rfl⟩
    have hk1 : 0 < kk ∧ kk ≤ R.length := by have := Nat.mod_lt by0 (show 0 < R.length by omega); omega
    have hkI : (1 : Int) + (by0 : Int).tmod (R.length : Int) = (kk : Int) := by rw [Int.tmod_eq_emod_of_nonneg (by omega), hkk]; simp
    have hkE : (1 : Int) + (by0 : Int) % (R.length : Int) = (kk : Int) := by rw [hkk]; simp
    have HK1 := Hold.mk hk1
    have HPG := Hold.mk (pages_law (q := { q with skip := 0, lim := 0 }) (l := l) (k := kk) rfl rfl HER.out hk1.1 (by rw [← HRR.out]; exact hk1.2) (by omega))
    clear hkk hz hk1
    go_upto_region 8 with (fail)
    go_cut [9] (fun s wx => s = .int .i64 (kk : Int) ∧ wx = w4)
    case first =>
      have hkW : wrap64 (kk : Int) = (kk : Int) := by unfold wrap64; have := HK1.out; omega
      go_wp2_with fail
      go_meet
      case rel => exact ⟨by first | rfl | exact congrArg (Value.int IntKind.i64) hkW | exact congrArg (Value.int IntKind.i64) hkE, rfl⟩
    case rest =>
    obtain ⟨rfl, hwc⟩ := hcut
    generalize wc = wd at *
    subst hwc
    rename World => w4
    clear hkI hkE
    obtain ⟨A, hA⟩ : ∃ A, A = runO { { q with skip := 0, lim := 0 } with lim := (kk : Int) } l := ⟨_, rfl⟩
    obtain ⟨B, hB⟩ : ∃ B, B = runO { { q with skip := 0, lim := 0 } with skip := (kk : Int) } l := ⟨_, rfl⟩
    have HPA : Hold (runE { { q with skip := 0, lim := 0 } with lim := (kk : Int) } l = 0 ∧ runE { { q with skip := 0, lim := 0 } with skip := (kk : Int) } l = 0 ∧ A.length = kk ∧ A ++ B = R) := ⟨by rw [hA, hB, HRR.out]; exact HPG.out⟩
    have HAA := Hold.mk hA
    have HBB := Hold.mk hB
    clear hA hB
    obtain ⟨y0, y1, y2, y3, y4, y5, y6, y7, y8⟩ := cells9A HX.out
    go_upto_region 10 with (fail)
    obtain ⟨w5, hw5⟩ : ∃ w5, w5 = w4.alloc (.cells #[.int .i64 k, .int .i64 n, .string t, .slice na nl nc, .slice ia il ic, .slice sa q.sort.length scap, .slice fa q.fields.length fcap, .int .i64 0, .int .i64 0] 28) := ⟨_, rfl⟩
    have hb5 : Below w4.heap.size w4 w5 := by rw [hw5]; exact (Below.refl _ w4).alloc (Nat.le_refl _) _
    have HX5 : Hold (w5.heap[w4.heap.size]? = some (.cells #[.int .i64 k, .int .i64 n, .string t, .slice na nl nc, .slice ia il ic, .slice sa q.sort.length scap, .slice fa q.fields.length fcap, .int .i64 0, .int .i64 0] 28 (0, 0))) := ⟨by rw [hw5]; exact heap_alloc_new w4 _⟩
    have HPL : Hold (w.heap.size < w4.heap.size) := ⟨heap_lt HX.out⟩
    have HB45 := Hold.mk hb5
    rw [← hw5]
    clear hw5 hb5 y0 y1 y2 y3 y4 y5 y6 y7 y8
    obtain ⟨x0, x1, x2, x3, x4, x5, x6, x7, x8⟩ := cells9A HX5.out
    have f8 := free_box HX5.out 8
    go_upto_region 11 with (fail)
    clear x0 x1 x2 x3 x4 x5 x6 x7 x8 f8
    have HX6 : Hold ((w5.setCell ⟨w4.heap.size, 8, none⟩ (.int .i64 (kk : Int))).heap[w4.heap.size]? = some (.cells #[.int .i64 k, .int .i64 n, .string t, .slice na nl nc, .slice ia il ic, .slice sa q.sort.length scap, .slice fa q.fields.length fcap, .int .i64 0, .int .i64 (kk : Int)] 28 (0, 0))) := ⟨by
      have := set_self (o := 8) (c := .int .i64 (kk : Int)) HX5.out
      simpa using this⟩
    have HBN : Hold (Below w4.heap.size w4 (w5.setCell ⟨w4.heap.size, 8, none⟩ (.int .i64 (kk : Int)))) := ⟨HB45.out.setCell (p := ⟨w4.heap.size, 8, none⟩) (Nat.le_refl _) _⟩
    replace HX := Hold.mk (kept HX.out HBN.out)
    have HBW := Hold.mk (HB.out.trans (HBN.out.mono HB.out.size))
    generalize w5.setCell ⟨w4.heap.size, 8, none⟩ (.int .i64 (kk : Int)) = w6 at HX6 HBN HX HBW ⊢
    have HR := Hold.mk (qRunB_any { { q with skip := 0, lim := 0 } with lim := (kk : Int) } l _ _ w6 ((HQP.out 0 (kk : Int)).mono (cle_below HBW.out)) (HLA.out.mono RD_mono (cle_below HBW.out)) HLL.out HID.out HSZ.out HFZ.out (HT.out.below HBW.out) rfl)
    obtain ⟨x0, x1, x2, x3, x4, x5, x6, x7, x8⟩ := cells9A HX6.out
    have HW46 : Hold (w4.heap.size ≤ w6.heap.size) := ⟨HBN.out.size⟩
    go_wp2_with fail
    refine HR.out.mono ?_
    rintro e w7 ⟨sva, csa, rfl, hoa, hb7⟩
    rw [← HAA.out, HPA.out.2.2.1] at hoa
    rw [HPA.out.1]
    obtain ⟨oaa, oac, rfl⟩ := hoa.shape
    have HOA := Hold.mk hoa
    replace HX := Hold.mk (kept HX.out hb7)
    replace HBN := Hold.mk (HBN.out.trans (hb7.mono HBN.out.size))
    replace HBW := Hold.mk (HBW.out.trans (hb7.mono HBW.out.size))
    clear hb7 hoa HR x0 x1 x2 x3 x4 x5 x6 x7 x8
    obtain ⟨y0, y1, y2, y3, y4, y5, y6, y7, y8⟩ := cells9A HX.out
    go_upto_region 13 with (fail)
    obtain ⟨w8, hw8⟩ : ∃ w8, w8 = w7.alloc (.cells #[.int .i64 k, .int .i64 n, .string t, .slice na nl nc, .slice ia il ic, .slice sa q.sort.length scap, .slice fa q.fields.length fcap, .int .i64 0, .int .i64 0] 28) := ⟨_, rfl⟩
    have hb8 : Below w7.heap.size w7 w8 := by rw [hw8]; exact (Below.refl _ w7).alloc (Nat.le_refl _) _
    have HX8 : Hold (w8.heap[w7.heap.size]? = some (.cells #[.int .i64 k, .int .i64 n, .string t, .slice na nl nc, .slice ia il ic, .slice sa q.sort.length scap, .slice fa q.fields.length fcap, .int .i64 0, .int .i64 0] 28 (0, 0))) := ⟨by rw [hw8]; exact heap_alloc_new w7 _⟩
    have HB78 := Hold.mk hb8
    rw [← hw8]
    clear hw8 hb8 y0 y1 y2 y3 y4 y5 y6 y7 y8
    obtain ⟨x0, x1, x2, x3, x4, x5, x6, x7, x8⟩ := cells9A HX8.out
    have f7 := free_box HX8.out 7
    go_upto_region 14 with (fail)
    clear x0 x1 x2 x3 x4 x5 x6 x7 x8 f7
    have HX9 : Hold ((w8.setCell ⟨w7.heap.size, 7, none⟩ (.int .i64 (kk : Int))).heap[w7.heap.size]? = some (.cells #[.int .i64 k, .int .i64 n, .string t, .slice na nl nc, .slice ia il ic, .slice sa q.sort.length scap, .slice fa q.fields.length fcap, .int .i64 (kk : Int), .int .i64 0] 28 (0, 0))) := ⟨by
      have := set_self (o := 7) (c := .int .i64 (kk : Int)) HX8.out
      simpa using this⟩
    have HB79 : Hold (Below w7.heap.size w7 (w8.setCell ⟨w7.heap.size, 7, none⟩ (.int .i64 (kk : Int)))) := ⟨HB78.out.setCell (p := ⟨w7.heap.size, 7, none⟩) (Nat.le_refl _) _⟩
    replace HOA := Hold.mk (HOA.out.quiet RD_mono HB79.out)
    replace HBN := Hold.mk (HBN.out.trans (HB79.out.mono HBN.out.size))
    replace HBW := Hold.mk (HBW.out.trans (HB79.out.mono HBW.out.size))
    generalize w8.setCell ⟨w7.heap.size, 7, none⟩ (.int .i64 (kk : Int)) = w9 at HX9 HB79 HOA HBN HBW ⊢
    have HR := Hold.mk (qRunS_any (cf w) { { q with skip := 0, lim := 0 } with skip := (kk : Int) } l _ _ w9 ((HQP.out (kk : Int) 0).mono (cle_below HBW.out)) HLA.out ((cle_below HBW.out).trans (cle_cfU _)) HLL.out HID.out HSZ.out HFZ.out (HT.out.below HBW.out))
    obtain ⟨x0, x1, x2, x3, x4, x5, x6, x7, x8⟩ := cells9A HX9.out
    go_wp2_with fail
    refine HR.out.mono ?_
    rintro e wa ⟨svb, rfl, hsb, hba⟩
    rw [← HBB.out] at hsb
    rw [HPA.out.2.1]
    obtain ⟨bb, bc, rfl⟩ := hsb.form
    have HSB : Hold (SAt 6 RD (cfN (.slice oaa kk oac) wa) (.slice bb B.length bc) B) := ⟨hsb.mono RD_mono (cle_pages HBW.out hba (fun g hg => by have := HOA.out.low g hg; have := HB.out.size; have := HW46.out; omega))⟩
    replace HOA := Hold.mk (HOA.out.quiet RD_mono hba)
    replace HBN := Hold.mk (HBN.out.trans (hba.mono HBN.out.size))
    replace HBW := Hold.mk (HBW.out.trans (hba.mono HBW.out.size))
    have HBL : Hold (kk + B.length ≤ 1000000) := ⟨by have h := congrArg List.length HPA.out.2.2.2; rw [List.length_append, HPA.out.2.2.1] at h; omega⟩
    clear hba hsb HR x0 x1 x2 x3 x4 x5 x6 x7 x8
    have hkl : (kk : Int) = (kk : Int) := rfl
    clear hkl
    go_upto_region 17 with (fail)
    go_wp2_with (at_builtin; refine push_src RD_mono RD_one rfl _ _ rfl infoDp Tryd.underlying29 rfl (by decide) _ _ _ kk _ _ HOA.out rfl _ _ HSB.out rfl (by have := HBL.out; omega) (by decide) ?_)
    intro sl3 wb cs3 ho3 hg3
    obtain ⟨ca, cc, rfl⟩ := ho3.shape
    have HSC := Hold.mk (ho3.at_ RD_mono)
    rw [HPA.out.2.2.2] at HSC
    have hlw : Below w6.heap.size wa wb := HOA.out.below hg3
    have HRA2 : Hold (SAt 6 RD (cf wb) (.slice raa R.length rac) R) := ⟨HRA.out.mono RD_mono (cle_below (HBN.out.trans (hlw.mono HW46.out)))⟩
    have HBWB := Hold.mk (HBW.out.trans (hlw.mono (Nat.le_trans HB.out.size HW46.out)))
    clear ho3 hg3 hlw
    have HRL : Hold (R.length ≤ 1000000) := ⟨by omega⟩
    have HD := Hold.mk (adocs_any R _ wb HSC.out HRL.out)
    go_wp2_with fail
    refine HD.out.mono ?_
    rintro e wc ⟨dv, rfl, hdv, hbc⟩
    have HDV := Hold.mk hdv
    have HD := Hold.mk (adocs_any R _ wc (HRA2.out.mono RD_mono (cle_below hbc)) HRL.out)
    replace HBWB := Hold.mk (HBWB.out.trans (hbc.mono HBWB.out.size))
    clear hdv hbc
    go_wp2_with fail
    refine HD.out.mono ?_
    rintro e wd ⟨ev, rfl, hev, hbd⟩
    have HSAM := Hold.mk (dSame_eq R dv ev wd (HDV.out.mono RD_mono (cle_below hbd)) hev)
    replace HBWB := Hold.mk (HBWB.out.trans (hbd.mono HBWB.out.size))
    clear hev hbd
    go_wp2_with fail
    refine HSAM.out.mono ?_
    rintro e we ⟨rfl, hbe⟩
    have HBF := HBWB.out.trans (hbe.mono HBWB.out.size)
    clear hbe
    go_wp2_with fail
    go_ret
    exact ⟨by simp, HBF⟩

end Go.Proofs.YtkhhbckpddkhlaaDoor
