/- Answers: AnswerAll walked. (printed by genXBC.py) -/
import Derived.Test.YtkhhbckpddkhlaaDoorAY
import Derived.Test.YtkhhbckpddkhlaaDoorAG
import Derived.Deep.DeepCutAuto
namespace Go.Proofs.YtkhhbckpddkhlaaDoor
open Go.Shelf Go.RowKit

/-- the query without Skip, Limit and Fields -/
def bareA (q : QR) : QR := { q with skip := 0, lim := 0, fields := [] }
theorem runO_bad {q : QR} {l : List DR} (h : runE q l ≠ 0) : runO q l = [] := by unfold runO; rw [if_neg h]
theorem bare_out {q : QR} {l : List DR} (h : runE (bareA q) l = 0) : runO (bareA q) l = sortA q l := by
  rw [all_out (q := bareA q) rfl rfl rfl h]; exact sortA_same rfl rfl l
theorem countP_next {α : Type} {l : List α} {p : α → Bool} {j : Nat} {x : α} (hx : l[j]? = some x) : (l.take (j + 1)).countP p = (l.take j).countP p + (if p x = true then 1 else 0) := by
  rw [take_nextW hx, List.countP_append, List.countP_cons]; simp
theorem strD_of {a b : ByteArray} (h : (a.toList == b.toList) = true) : a = b := by
  have := eq_of_beq h
  rw [ByteArray.toList_eq, ByteArray.toList_eq] at this
  cases a; cases b; exact congrArg ByteArray.mk (Array.toList_inj.1 this)
theorem strD_eq {a b : ByteArray} (h : a = b) : (a.toList == b.toList) = true := by rw [h]; simp

set_option maxRecDepth 100000 in
set_option maxHeartbeats 32000000 in
theorem answerAll_walk (q : QR) (l : List DR) (d : List Value) (lv : Value) (w : World) (hq : QAt (cf w) q d) (hl : SAt 6 RD (cf w) lv l) (hT : Tabs w) :
    Calls Tryd.prog 5 #[.agg d.toArray, lv] w fun e w' => e = .returned (.bool true) ∧ Below w.heap.size w w' := by
  have HQA := Hold.mk hq
  have HLA := Hold.mk hl
  obtain ⟨k, n, t, na, nl, nc, ia, il, ic, sv, fv, rfl, hj, hs, hf⟩ := hq
  have HJ := Hold.mk hj
  have HSO := Hold.mk hs
  obtain ⟨sa, scap, rfl⟩ := hs.form
  obtain ⟨fa, fcap, rfl⟩ := hf.form
  obtain ⟨la, lcap, rfl, hle, hcap, hel⟩ := hl
  have HE := Hold.mk hel
  have hll3 : l.length ≤ 9223372036854775807 := by omega
  have HT := Hold.mk hT
  obtain ⟨W, hW⟩ : ∃ W, W = w.alloc (.cells #[.int .i64 k, .int .i64 n, .string t, .slice na nl nc, .slice ia il ic, .slice sa q.sort.length scap, .slice fa q.fields.length fcap, .int .i64 q.skip, .int .i64 q.lim] 28) := ⟨_, rfl⟩
  have hb : Below w.heap.size w W := by rw [hW]; exact (Below.refl _ w).alloc (Nat.le_refl _) _
  have HX : Hold (W.heap[w.heap.size]? = some (.cells #[.int .i64 k, .int .i64 n, .string t, .slice na nl nc, .slice ia il ic, .slice sa q.sort.length scap, .slice fa q.fields.length fcap, .int .i64 q.skip, .int .i64 q.lim] 28 (0, 0))) := ⟨by rw [hW]; exact heap_alloc_new w _⟩
  have HB := Hold.mk hb
  have HA := Hold.mk (awake16_any W (hT.below hb))
  clear hb hj hs hf hT hel
  go_enter Tryd.func5, Tryd.ntmps5
  go_upto_region 1 with (fail)
  rw [← hW]
  clear hW
  go_wp2_with fail
  refine HA.out.mono ?_
  rintro e w1 ⟨rfl, hb1⟩
  replace HX := Hold.mk (kept HX.out hb1)
  replace HB := Hold.mk (HB.out.trans (hb1.mono HB.out.size))
  clear hb1 HA
  have HF := Hold.mk (lfew_any q l _ _ w1 (HQA.out.mono (cle_below HB.out)) (HLA.out.mono RD_mono (cle_below HB.out)))
  obtain ⟨y0, y1, y2, y3, y4, y5, y6, y7, y8⟩ := cells9A HX.out
  go_wp2_with fail
  refine HF.out.mono ?_
  rintro e w2 ⟨fb, rfl, hfb, hb2⟩
  replace HX := Hold.mk (kept HX.out hb2)
  replace HB := Hold.mk (HB.out.trans (hb2.mono HB.out.size))
  have HFB := Hold.mk hfb
  clear hb2 hfb HF y0 y1 y2 y3 y4 y5 y6 y7 y8
  cases fb with
  | false =>
    have HA := Hold.mk (awake16_any w2 (HT.out.below HB.out))
    go_wp2_with fail
    refine HA.out.mono ?_
    rintro e w3 ⟨rfl, hb3⟩
    have HBF := HB.out.trans (hb3.mono HB.out.size)
    clear hb3 HA
    go_wp2_with fail
    go_ret
    exact ⟨rfl, HBF⟩
  | true =>
    have HSM := Hold.mk (HFB.out rfl)
    have hsz : ∀ o ∈ q.sort, o.path.size ≤ 1000000 := fun o ho => by have := HSM.out.paths o ho; omega
    have hid : ∀ x ∈ l, x.id.size ≤ 1000000 := fun x hx => by have := HSM.out.ids x hx; omega
    have hll : l.length ≤ 1000000 := by have := HSM.out.docs; omega
    have HSZ := Hold.mk hsz
    have HID := Hold.mk hid
    have HLL := Hold.mk hll
    clear hsz hid hll
    obtain ⟨y0, y1, y2, y3, y4, y5, y6, y7, y8⟩ := cells9A HX.out
    have f6 := free_box HX.out 6
    have f7 := free_box HX.out 7
    have f8 := free_box HX.out 8
    go_upto_region 6 with (fail)
    clear y0 y1 y2 y3 y4 y5 y6 y7 y8 f6 f7 f8
    have HXN : Hold ((((w2.setCell ⟨w.heap.size, 7, none⟩ (.int .i64 0)).setCell ⟨w.heap.size, 8, none⟩ (.int .i64 0)).setCell ⟨w.heap.size, 6, none⟩ (.slice none 0 0)).heap[w.heap.size]? = some (.cells #[.int .i64 k, .int .i64 n, .string t, .slice na nl nc, .slice ia il ic, .slice sa q.sort.length scap, .slice none 0 0, .int .i64 0, .int .i64 0] 28 (0, 0))) := ⟨by
      have := set_self (o := 6) (c := .slice none 0 0) (set_self (o := 8) (c := .int .i64 0) (set_self (o := 7) (c := .int .i64 0) HX.out))
      simpa using this⟩
    have HBN : Hold (Below w.heap.size w (((w2.setCell ⟨w.heap.size, 7, none⟩ (.int .i64 0)).setCell ⟨w.heap.size, 8, none⟩ (.int .i64 0)).setCell ⟨w.heap.size, 6, none⟩ (.slice none 0 0))) := ⟨((HB.out.setCell (p := ⟨w.heap.size, 7, none⟩) (Nat.le_refl _) _).setCell (p := ⟨w.heap.size, 8, none⟩) (Nat.le_refl _) _).setCell (p := ⟨w.heap.size, 6, none⟩) (Nat.le_refl _) _⟩
    generalize hw3 : ((w2.setCell ⟨w.heap.size, 7, none⟩ (.int .i64 0)).setCell ⟨w.heap.size, 8, none⟩ (.int .i64 0)).setCell ⟨w.heap.size, 6, none⟩ (.slice none 0 0) = w3 at HXN HBN ⊢
    clear hw3 HX HB
    have HX := HXN
    have HB := HBN
    clear HXN HBN
    have HQP : Hold (QAt (cf w) (bareA q) [.int .i64 k, .int .i64 n, .string t, .slice na nl nc, .slice ia il ic, .slice sa q.sort.length scap, .slice none 0 0, .int .i64 0, .int .i64 0]) := ⟨k, n, t, na, nl, nc, ia, il, ic, _, _, rfl, HJ.out, HSO.out, SAt.none _ _ _⟩
    have HR := Hold.mk (qRun_any (bareA q) l _ _ w3 (HQP.out.mono (cle_below HB.out)) (HLA.out.mono RD_mono (cle_below HB.out)) HLL.out HID.out HSZ.out (fun p hp => by cases hp) (HT.out.below HB.out))
    obtain ⟨y0, y1, y2, y3, y4, y5, y6, y7, y8⟩ := cells9A HX.out
    go_wp2_with fail
    refine HR.out.mono ?_
    rintro e w4 ⟨ra, rfl, hra, hb4⟩
    replace HX := Hold.mk (kept HX.out hb4)
    replace HB := Hold.mk (HB.out.trans (hb4.mono HB.out.size))
    obtain ⟨er, her⟩ : ∃ er, runE (bareA q) l = er := ⟨_, rfl⟩
    rw [her]
    have HER := Hold.mk her
    clear hb4 HR her y0 y1 y2 y3 y4 y5 y6 y7 y8
    by_cases h0 : er = 0
    case neg =>
      rw [runO_bad (by rw [HER.out]; exact h0)] at hra
      obtain ⟨raa, rac, rfl⟩ := hra.form
      have HBF := HB.out
      clear hra HER
      go_wp2_with fail
      go_ret
      exact ⟨by simp, HBF⟩
    subst h0
    rw [bare_out HER.out] at hra
    have HOK : Hold (okA [] l = true) := ⟨(runE_zero HER.out).2⟩
    obtain ⟨S, hS⟩ : ∃ S, S = sortA q l := ⟨_, rfl⟩
    rw [← hS] at hra
    have HS := Hold.mk hS
    obtain ⟨raa, rac, rfl, hrl, hrc, hrel2⟩ := hra
    have HRE := Hold.mk hrel2
    have hSl : S.length ≤ 9223372036854775807 := by omega
    have HNS : Hold (S.length ≤ l.length) := ⟨by rw [hS, (sortA_perm q l).length_eq]; exact List.length_filter_le _ _⟩
    clear hS hrel2
    go_wp2_with fail
    go_loopw [7, 8] (fun c i wr => ∃ (j : Nat), c = .int .i64 (((l.take j).countP fun d => HoldsP q.flt d.v : Nat) : Int) ∧ i = .int .i64 j ∧ j ≤ l.length ∧ Below w4.heap.size w4 wr) (fun _ i _ => l.length - (intOf i).toNat)
    case atStart => exact ⟨0, rfl, rfl, Nat.zero_le _, Below.refl _ _⟩
    case round =>
      rename World => wo
      obtain ⟨j, rfl, rfl, hj, hbo⟩ := hrel
      have HBO := Hold.mk hbo
      have HXO := Hold.mk (kept HX.out hbo)
      have HBW := Hold.mk (HB.out.trans (hbo.mono HB.out.size))
      clear hbo
      obtain ⟨cn, hcn⟩ : ∃ cn, cn = (l.take j).countP fun d => HoldsP q.flt d.v := ⟨_, rfl⟩
      rw [← hcn]
      have HCN := Hold.mk hcn
      have hcnb : cn ≤ 1000000 := by rw [hcn]; exact Nat.le_trans List.countP_le_length (by rw [List.length_take]; have := HLL.out; omega)
      clear hcn
      by_cases hlt : j < l.length
      · obtain ⟨x, hx⟩ : ∃ x, l[j]? = some x := ⟨l[j], List.getElem?_eq_getElem hlt⟩
        obtain ⟨b, off, d, rfl, hd, hc, hxi⟩ := HE.out j x hx
        have HXX := Hold.mk hx
        obtain ⟨dk, dn, dt, dna, dnl, dnc, dia, dil, dic, rfl, _, hkd, hjd⟩ := hxi
        have HJD := Hold.mk hjd
        have HC6 := Hold.mk hc
        obtain ⟨y0, y1, y2, y3, y4, y5, y6, y7, y8⟩ := cells9A HXO.out
        have hcl := cle_below HBW.out
        have g0 := Grow.cell (hcl _ _ _ (hc 0 _ rfl))
        rw [Nat.add_zero] at g0
        have g1 := Grow.cell (hcl _ _ _ (hc 1 _ rfl))
        have g2 := Grow.cell (hcl _ _ _ (hc 2 _ rfl))
        have g3 := Grow.cell (hcl _ _ _ (hc 3 _ rfl))
        have g4 := Grow.cell (hcl _ _ _ (hc 4 _ rfl))
        have g5 := Grow.cell (hcl _ _ _ (hc 5 _ rfl))
        have p0 := Grow.cell y0
        have p1 := Grow.cell y1
        have p2 := Grow.cell y2
        have p3 := Grow.cell y3
        have p4 := Grow.cell y4
        obtain ⟨hh, hhh⟩ : ∃ hh, HoldsP q.flt x.v = hh := ⟨_, rfl⟩
        have HPL := Hold.mk (Calls.grow (fun e : Grow wo => Holds_any q.flt x.v _ _ e.val (HJ.out.mono ((cle_below HBW.out).trans (cle_below e.property))) (HJD.out.mono ((cle_below HBW.out).trans (cle_below e.property))) (HT.out.below (HBW.out.trans (e.property.mono HBW.out.size)))))
        rw [hhh] at HPL
        have HHH := Hold.mk hhh
        have HCX : Hold ((l.take (j + 1)).countP (fun d => HoldsP q.flt d.v) = cn + (if hh = true then 1 else 0)) := ⟨by rw [countP_next hx, ← HCN.out, hhh]⟩
        clear hx hd hc hkd hjd hcl hhh y0 y1 y2 y3 y4 y5 y6 y7 y8
        go_upto_region 13 with (fail)
        go_cut [49] (fun s wx => s = .bool (!hh) ∧ Below wo.heap.size wo wx)
        case first =>
          refine wp_region_grow (by kernel_rfl) (by kernel_rfl) ?_
          repeat (go_big_quiet_step (exact HPL.out _))
          refine wpQuiet_nil ?_
          rintro ⟨w9, hb9⟩
          simp only
          go_wp2_with fail
          go_meet
          case rel => exact ⟨rfl, hb9⟩
        case rest =>
        obtain ⟨rfl, hbq⟩ := hcut
        generalize wc = wq at *
        replace HBO := Hold.mk (HBO.out.trans (hbq.mono HBO.out.size))
        replace HBW := Hold.mk (HBW.out.trans (hbq.mono HBW.out.size))
        clear hbq HPL g0 g1 g2 g3 g4 g5 p0 p1 p2 p3 p4
        cases hh with
        | false =>
          have HBF := HBO.out
          have HC0 : Hold ((l.take (j + 1)).countP (fun d => HoldsP q.flt d.v) = cn) := ⟨by rw [HCX.out]; rfl⟩
          go_wp2_with fail
          exact ⟨⟨j + 1, by rw [HC0.out], by go_num, hlt, HBF⟩, by simp [intOf]; omega⟩
        | true =>
          have HC1 : Hold ((l.take (j + 1)).countP (fun d => HoldsP q.flt d.v) = cn + 1) := ⟨by rw [HCX.out]; rfl⟩
          have HXS : Hold (x ∈ S) := ⟨by rw [HS.out]; exact all_mem.2 ⟨List.mem_of_getElem? HXX.out, HHH.out⟩⟩
          go_wp2_with fail
          go_loopw [9, 10] (fun c i wx => ∃ (m : Nat), c = .int .i64 (((S.take m).countP fun y => decide (y.id = x.id) : Nat) : Int) ∧ i = .int .i64 m ∧ m ≤ S.length ∧ Below w4.heap.size w4 wx ∧ Below w.heap.size w wx) (fun _ i _ => S.length - (intOf i).toNat)
          case atStart => exact ⟨0, rfl, rfl, Nat.zero_le _, HBO.out, HBW.out⟩
          case round =>
            rename World => wi
            obtain ⟨m, rfl, rfl, hm, hbi, hbj⟩ := hrel
            clear HBO HBW
            have HBO := Hold.mk hbi
            have HBW := Hold.mk hbj
            clear hbi hbj
            obtain ⟨tn, htn⟩ : ∃ tn, tn = (S.take m).countP fun y => decide (y.id = x.id) := ⟨_, rfl⟩
            rw [← htn]
            have HTN := Hold.mk htn
            have htnb : tn ≤ 1000000 := by rw [htn]; exact Nat.le_trans List.countP_le_length (by rw [List.length_take]; have := HLL.out; have := HNS.out; omega)
            clear htn
            by_cases hmt : m < S.length
            · obtain ⟨y, hy⟩ : ∃ y, S[m]? = some y := ⟨S[m], List.getElem?_eq_getElem hmt⟩
              obtain ⟨b2, off2, d2, rfl, hd2, hc2, hyi⟩ := HRE.out m y hy
              obtain ⟨ek, en, et, ena, enl, enc, eia, eil, eic, rfl, _, hke, hje⟩ := hyi
              have HYY := Hold.mk hy
              have HJE := Hold.mk hje
              have hcl := cle_below HBW.out
              have hcl4 := cle_below HBO.out
              have g0 := Grow.cell (hcl _ _ _ (HC6.out 0 _ rfl))
              rw [Nat.add_zero] at g0
              have g1 := Grow.cell (hcl _ _ _ (HC6.out 1 _ rfl))
              have g2 := Grow.cell (hcl _ _ _ (HC6.out 2 _ rfl))
              have g3 := Grow.cell (hcl _ _ _ (HC6.out 3 _ rfl))
              have g4 := Grow.cell (hcl _ _ _ (HC6.out 4 _ rfl))
              have g5 := Grow.cell (hcl _ _ _ (HC6.out 5 _ rfl))
              have p0 := Grow.cell (hcl4 _ _ _ (hc2 0 _ rfl))
              rw [Nat.add_zero] at p0
              have p1 := Grow.cell (hcl4 _ _ _ (hc2 1 _ rfl))
              have p2 := Grow.cell (hcl4 _ _ _ (hc2 2 _ rfl))
              have p3 := Grow.cell (hcl4 _ _ _ (hc2 3 _ rfl))
              have p4 := Grow.cell (hcl4 _ _ _ (hc2 4 _ rfl))
              have p5 := Grow.cell (hcl4 _ _ _ (hc2 5 _ rfl))
              obtain ⟨eq, heq⟩ : ∃ eq, (y.id.toList == x.id.toList) = eq := ⟨_, rfl⟩
              have HEQ := Hold.mk heq
              have HCT : Hold ((S.take (m + 1)).countP (fun y => decide (y.id = x.id)) = tn + (if decide (y.id = x.id) = true then 1 else 0)) := ⟨by rw [countP_next hy, ← HTN.out]⟩
              clear hy hd2 hc2 hke hje hcl hcl4
              go_upto_region 19 with (fail)
              go_cut [81] (fun s wx => s = .bool eq ∧ Below wi.heap.size wi wx)
              case first =>
                cases eq with
                | false =>
                  refine wp_region_grow (by kernel_rfl) (by kernel_rfl) ?_
                  repeat (go_big_quiet_step (fail))
                  refine wpQuiet_nil ?_
                  rintro ⟨w9, hb9⟩
                  simp only
                  go_wp2_with fail
                  go_meet
                  case rel => exact ⟨rfl, hb9⟩
                | true =>
                  have hyx : y = x := ids_one (all_ids (q := q) HOK.out) (by rw [← HS.out]; exact List.mem_of_getElem? HYY.out) (by rw [← HS.out]; exact HXS.out) (strD_of HEQ.out)
                  have HC := Hold.mk (Calls.grow (fun e : Grow wi => rSame_any y.v x.v _ _ e.val (HJE.out.mono ((cle_below HBO.out).trans (cle_below e.property))) (HJD.out.mono ((cle_below HBW.out).trans (cle_below e.property)))))
                  rw [sameB_true (by rw [hyx])] at HC
                  clear hyx
                  refine wp_region_grow (by kernel_rfl) (by kernel_rfl) ?_
                  repeat (go_big_quiet_step (exact HC.out _))
                  refine wpQuiet_nil ?_
                  rintro ⟨w9, hb9⟩
                  simp only
                  go_wp2_with fail
                  go_meet
                  case rel => exact ⟨rfl, hb9⟩
              case rest =>
              obtain ⟨rfl, hbq⟩ := hcut
              generalize wc = wz at *
              replace HBO := Hold.mk (HBO.out.trans (hbq.mono HBO.out.size))
              replace HBW := Hold.mk (HBW.out.trans (hbq.mono HBW.out.size))
              clear hbq heq g0 g1 g2 g3 g4 g5 p0 p1 p2 p3 p4 p5
              cases eq with
              | false =>
                have HC0 : Hold ((S.take (m + 1)).countP (fun y => decide (y.id = x.id)) = tn) := ⟨by rw [HCT.out, if_neg (fun h => by have := HEQ.out; rw [strD_eq (of_decide_eq_true h)] at this; cases this)]; rfl⟩
                have HBF := HBO.out
                have HBG := HBW.out
                go_wp2_with fail
                exact ⟨⟨m + 1, by rw [HC0.out], by go_num, hmt, HBF, HBG⟩, by simp [intOf]; omega⟩
              | true =>
                have HC0 : Hold ((S.take (m + 1)).countP (fun y => decide (y.id = x.id)) = tn + 1) := ⟨by rw [HCT.out, if_pos (decide_eq_true (strD_of HEQ.out))]⟩
                have HBF := HBO.out
                have HBG := HBW.out
                go_wp2_with fail
                exact ⟨⟨m + 1, by rw [HC0.out]; go_num, by go_num, hmt, HBF, HBG⟩, by simp [intOf]; omega⟩
            · obtain rfl : m = S.length := by omega
              have HT1 : Hold (tn = 1) := ⟨by rw [HTN.out, List.take_of_length_le (Nat.le_refl _)]; exact count_one (by rw [HS.out]; exact all_ids HOK.out) HXS.out⟩
              obtain rfl := HT1.out
              have HBF := HBO.out
              go_wp2_with fail
              exact ⟨⟨j + 1, by rw [HC1.out]; go_num, by go_num, hlt, HBF⟩, by simp [intOf]; omega⟩
      · obtain rfl : j = l.length := by omega
        have HNE : Hold (cn = S.length) := ⟨by rw [HCN.out, List.take_of_length_le (Nat.le_refl _), HS.out, all_len]⟩
        obtain rfl := HNE.out
        go_wp2_with fail
        go_loopw [11] (fun i wx => ∃ (m : Nat), i = .int .i64 ((m + 1 : Nat) : Int) ∧ (m + 1 ≤ S.length ∨ m = 0) ∧ Below w4.heap.size w4 wx) (fun i _ => S.length + 1 - (intOf i).toNat)
        case atStart => exact ⟨0, rfl, .inr rfl, HBO.out⟩
        case round =>
          rename World => wi
          obtain ⟨m, rfl, hm, hbi⟩ := hrel
          clear HBO HBW HXO
          have HBO := Hold.mk hbi
          have HBW := Hold.mk (HB.out.trans (hbi.mono HB.out.size))
          have HXO := Hold.mk (kept HX.out hbi)
          clear hbi
          by_cases hmt : m + 1 < S.length
          · obtain ⟨x, hx⟩ : ∃ x, S[m]? = some x := ⟨S[m], List.getElem?_eq_getElem (by omega)⟩
            obtain ⟨y, hy⟩ : ∃ y, S[m + 1]? = some y := ⟨S[m + 1], List.getElem?_eq_getElem hmt⟩
            have HLS := Hold.mk (all_next (q := q) HOK.out (by rw [← HS.out]; exact hx) (by rw [← HS.out]; exact hy))
            obtain ⟨b1, off1, d1, e1, hd1, hc1, hxi⟩ := HRE.out m x hx
            obtain ⟨b2, off2, d2, e2, hd2, hc2, hyi⟩ := HRE.out (m + 1) y hy
            obtain ⟨rfl, rfl, _⟩ : b2 = b1 ∧ off2 = off1 ∧ True := by rw [e1] at e2; simp at e2; exact ⟨e2.1.symm, e2.2.symm, trivial⟩
            subst e1
            have HXR := Hold.mk hxi
            have HYR := Hold.mk hyi
            obtain ⟨dk, dn, dt, dna, dnl, dnc, dia, dil, dic, rfl, _⟩ := hxi
            obtain ⟨ek, en, et, ena, enl, enc, eia, eil, eic, rfl, _⟩ := hyi
            have hcl4 := cle_below HBO.out
            obtain ⟨y0, y1, y2, y3, y4, y5, y6, y7, y8⟩ := cells9A HXO.out
            have g0 := Grow.cell (hcl4 _ _ _ (hc1 0 _ rfl))
            rw [Nat.add_zero] at g0
            have g1 := Grow.cell (hcl4 _ _ _ (hc1 1 _ rfl))
            have g2 := Grow.cell (hcl4 _ _ _ (hc1 2 _ rfl))
            have g3 := Grow.cell (hcl4 _ _ _ (hc1 3 _ rfl))
            have g4 := Grow.cell (hcl4 _ _ _ (hc1 4 _ rfl))
            have g5 := Grow.cell (hcl4 _ _ _ (hc1 5 _ rfl))
            have p0 := Grow.cell (hcl4 _ _ _ (hc2 0 _ rfl))
            rw [Nat.add_zero] at p0
            have p1 := Grow.cell (hcl4 _ _ _ (hc2 1 _ rfl))
            have p2 := Grow.cell (hcl4 _ _ _ (hc2 2 _ rfl))
            have p3 := Grow.cell (hcl4 _ _ _ (hc2 3 _ rfl))
            have p4 := Grow.cell (hcl4 _ _ _ (hc2 4 _ rfl))
            have p5 := Grow.cell (hcl4 _ _ _ (hc2 5 _ rfl))
            have r0 := Grow.cell y0
            have r1 := Grow.cell y1
            have r2 := Grow.cell y2
            have r3 := Grow.cell y3
            have r4 := Grow.cell y4
            have r5 := Grow.cell y5
            have r6 := Grow.cell y6
            have r7 := Grow.cell y7
            have r8 := Grow.cell y8
            have HL1 := Hold.mk (Calls.grow (fun e : Grow wi => Less_any (bareA q) x y _ _ _ e.val (HQP.out.mono ((cle_below HBW.out).trans (cle_below e.property))) (RD_mono _ _ _ _ ((cle_below HBO.out).trans (cle_below e.property)) HXR.out) (RD_mono _ _ _ _ ((cle_below HBO.out).trans (cle_below e.property)) HYR.out) HSZ.out (HT.out.below (HBW.out.trans (e.property.mono HBW.out.size)))))
            have HL2 := Hold.mk (Calls.grow (fun e : Grow wi => Less_any (bareA q) y x _ _ _ e.val (HQP.out.mono ((cle_below HBW.out).trans (cle_below e.property))) (RD_mono _ _ _ _ ((cle_below HBO.out).trans (cle_below e.property)) HYR.out) (RD_mono _ _ _ _ ((cle_below HBO.out).trans (cle_below e.property)) HXR.out) HSZ.out (HT.out.below (HBW.out.trans (e.property.mono HBW.out.size)))))
            rw [show decide (docC (bareA q).sort x y < 0) = true from decide_eq_true HLS.out.1] at HL1
            rw [show decide (docC (bareA q).sort y x < 0) = false from decide_eq_false HLS.out.2] at HL2
            have HMI : Hold (m ≤ 1000000) := ⟨by have := HNS.out; have := HLL.out; omega⟩
            have hm1 : ((m + 1 : Nat) : Int) - 1 = (m : Int) := by omega
            clear hx hy hd1 hd2 hc1 hc2 hcl4 y0 y1 y2 y3 y4 y5 y6 y7 y8
            go_upto_region 26 with (fail)
            go_cut [116] (fun s wx => s = .bool false ∧ Below wi.heap.size wi wx)
            case first =>
              refine wp_region_grow (by kernel_rfl) (by kernel_rfl) ?_
              repeat (go_big_quiet_step (first | with_reducible exact HL1.out _ | with_reducible exact HL2.out _))
              refine wpQuiet_nil ?_
              rintro ⟨w9, hb9⟩
              simp only
              go_wp2_with fail
              go_meet
              case rel => exact ⟨rfl, hb9⟩
            case rest =>
            obtain ⟨rfl, hbq⟩ := hcut
            generalize wc = wz at *
            have HBF := HBO.out.trans (hbq.mono HBO.out.size)
            clear hbq HL1 HL2
            go_wp2_with fail
            exact ⟨⟨m + 1, by go_num, .inl hmt, HBF⟩, by simp [intOf]; omega⟩
          · have HBF := HBW.out
            have hmt2 : ¬ ((m + 1 : Nat) : Int) < (S.length : Int) := by omega
            go_wp2_with fail
            go_ret
            exact ⟨by simp, HBF⟩

end Go.Proofs.YtkhhbckpddkhlaaDoor
