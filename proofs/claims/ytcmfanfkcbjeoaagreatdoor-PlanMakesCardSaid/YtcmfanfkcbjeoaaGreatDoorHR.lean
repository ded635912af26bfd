/- Plans: first of the reference, walked (printed by genXHR.py). -/
import Derived.Test.YtcmfanfkcbjeoaaGreatDoorHQ
namespace Go.Proofs.YtcmfanfkcbjeoaaGreatDoor
open Go.RowKit

set_option maxRecDepth 100000 in
set_option maxHeartbeats 16000000 in
theorem rfirst_succ (d : Nat) (IH : RFirstAt d) : RFirstAt (d + 1) := by
  intro f x p t c w hf hx hcw hp
  have hft : firstR p t (d + 1) f = (f.names.zip f.items).findSome? fun q => firstC (firstR p t d) p t q.1 q.2 := rfl
  obtain ⟨k, n, tx, nm, it, na, ncap, ia, icap, rfl, rfl, _, _, _, hst, hit⟩ := hx.open
  obtain ⟨hnl, _, hfi⟩ := formed_nm hf
  obtain ⟨na', ncap', e, hnlen, hnel⟩ := hst
  cases e
  obtain ⟨ia', icap', e, hilen, hiel⟩ := hit
  cases e
  obtain ⟨G, hG⟩ : ∃ G : ByteArray × JV → Option JV, G = fun q => firstC (firstR p t d) p t q.1 q.2 := ⟨_, rfl⟩
  obtain ⟨o, ho⟩ : ∃ o, o = firstR p t (d + 1) (.mk k n tx nm it) := ⟨_, rfl⟩
  have HOO : Hold (o = ((nm.zip it).drop 0).findSome? G) := ⟨by rw [ho, hft, hG]; rfl⟩
  rw [← ho]
  obtain ⟨W0, hW0⟩ : ∃ W0, W0 = (w.alloc (.cells #[.int .i64 k, .int .i64 n, .string tx, .slice na nm.length ncap, .slice ia it.length icap] 25)).alloc (.cells zero5 25) := ⟨_, rfl⟩
  have hb0 : Below w.heap.size w W0 := by rw [hW0]; exact ((Below.refl _ w).alloc (Nat.le_refl _) _).alloc (by simp) _
  have e3 : W0.heap[w.heap.size]? = some (.cells #[.int .i64 k, .int .i64 n, .string tx, .slice na nm.length ncap, .slice ia it.length icap] 25 (0, 0)) := by
    rw [hW0]
    exact kept (heap_alloc_new w _) ((Below.refl _ _).alloc (Nat.le_refl _) _)
  have e1 : W0.heap[w.heap.size + 1]? = some (.cells zero5 25 (0, 0)) := by
    rw [hW0]
    have := heap_alloc_new (w.alloc (.cells #[.int .i64 k, .int .i64 n, .string tx, .slice na nm.length ncap, .slice ia it.length icap] 25)) (.cells zero5 25)
    simpa using this
  have HB0 := Hold.mk hb0
  have HF0 := Hold.mk e3
  have HR0 := Hold.mk e1
  have HNE := Hold.mk hnel
  have HIE := Hold.mk hiel
  have HFI := Hold.mk hfi
  have HGG := Hold.mk hG
  have HIH := Hold.mk IH
  have HSP := Hold.mk hp
  have HCW := Hold.mk hcw
  clear hft ho hb0 e1 e3 hnel hiel hfi hG IH hf hx hp hcw
  go_enter Tryz.func105, Tryz.ntmps105
  go_upto_region 1 with (fail)
  rw [← hW0]
  clear hW0
  go_wp2_with fail
  go_loopw [8] (fun i wr => ∃ j : Nat, i = .int .i64 j ∧ j ≤ nm.length ∧ o = ((nm.zip it).drop j).findSome? G ∧ Below W0.heap.size W0 wr) (fun i _ => nm.length - (intOf i).toNat)
  case atStart => exact ⟨0, rfl, Nat.zero_le _, HOO.out, Below.refl _ _⟩
  case round =>
    obtain ⟨j, rfl, hj, hoj, hbl⟩ := hrel
    have HOJ := Hold.mk hoj
    have HBL := Hold.mk hbl
    have HBW : Hold (Below w.heap.size w wr) := ⟨HB0.out.trans (hbl.mono HB0.out.size)⟩
    have HFR := Hold.mk (kept HF0.out hbl)
    have HRR := Hold.mk (kept HR0.out hbl)
    clear hoj hbl HOO
    obtain ⟨y0, y1, y2, y3, y4⟩ := cells_five HFR.out
    by_cases hlt : j < nm.length
    · obtain ⟨s, hs⟩ : ∃ s, nm[j]? = some s := ⟨nm[j], List.getElem?_eq_getElem hlt⟩
      have hlti : j < it.length := by omega
      obtain ⟨v, hv⟩ : ∃ v, it[j]? = some v := ⟨it[j], List.getElem?_eq_getElem hlti⟩
      have HSTP := Hold.mk (HOJ.out.trans (some_step G (zip_at hs hv)))
      have HGV : Hold (G (s, v) = firstC (firstR p t d) p t s v) := ⟨by rw [HGG.out]⟩
      obtain ⟨hsz, nb, noff, rfl, n0⟩ := HNE.out j s hs
      obtain ⟨ib, ioff, k2, n2, t2, nm2, it2, na2, ncap2, ia2, icap2, rfl, hxe, x0, x1, x2, x3, x4, hxj⟩ := HIE.out j v hv
      have hcl := HCW.out.trans (cle_below HBW.out)
      have zn := hcl _ _ _ n0
      have z0 := hcl _ _ _ x0
      have z1 := hcl _ _ _ x1
      have z2 := hcl _ _ _ x2
      have z3 := hcl _ _ _ x3
      have z4 := hcl _ _ _ x4
      unfold cf at zn z0 z1 z2 z3 z4
      have HFV := Hold.mk (HFI.out v (List.mem_of_getElem? hv))
      have HXJ := Hold.mk hxj
      have HXE := Hold.mk hxe
      have HN0 := Hold.mk n0
      clear n0 x0 x1 x2 x3 x4 hcl hs hv hxe hxj
      obtain ⟨W1, hW1⟩ : ∃ W1, W1 = wr.alloc (.cells #[.int .i64 k2, .int .i64 n2, .string t2, .slice na2 nm2.length ncap2, .slice ia2 it2.length icap2] 25) := ⟨_, rfl⟩
      have hb1 : Below wr.heap.size wr W1 := by rw [hW1]; exact (Below.refl _ wr).alloc (Nat.le_refl _) _
      have HK1 : Hold (W1.heap[wr.heap.size]? = some (.cells #[.int .i64 k2, .int .i64 n2, .string t2, .slice na2 nm2.length ncap2, .slice ia2 it2.length icap2] 25 (0, 0))) := ⟨by rw [hW1]; exact heap_alloc_new wr _⟩
      replace HBL := Hold.mk (HBL.out.trans (hb1.mono HBL.out.size))
      replace HBW := Hold.mk (HBW.out.trans (hb1.mono HBW.out.size))
      replace HFR := Hold.mk (kept HFR.out hb1)
      replace HRR := Hold.mk (kept HRR.out hb1)
      go_upto_region 5 with (fail)
      rw [← hW1]
      clear hW1 hb1 y0 y1 y2 y3 y4 z0 z1 z2 z3 z4 zn
      obtain ⟨y0, y1, y2, y3, y4⟩ := cells_five HFR.out
      obtain ⟨x0, x1, x2, x3, x4⟩ := cells_five HK1.out
      have zn := (HCW.out.trans (cle_below HBW.out)) _ _ _ HN0.out
      unfold cf at zn
      by_cases hand : s.toList = [36, 97, 110, 100]
      · have hb : (s.toList == [36, 97, 110, 100]) = true := by rw [hand]; rfl
        have HGA : Hold (G (s, v) = it2.findSome? (firstR p t d)) := ⟨by rw [HGV.out]; unfold firstC; rw [if_pos (isN_yes hand), HXE.out]; rfl⟩
        have hsp : (s.toList == p.toList) = false := by
          rw [beq_eq_false_iff_ne]
          intro e
          have h1 := HSP.out
          unfold signF at h1
          rw [← ByteArray.toList_eq, ← e, hand] at h1
          simp at h1
        obtain ⟨ia', icap', e, hil2, hiel2⟩ := (HXJ.out.parts HXE.out).2
        cases e
        have HI2 := Hold.mk hiel2
        have HIU := Hold.mk (item_up HFV.out HXE.out)
        clear hand hiel2
        go_wp2_with fail
        clear y0 y1 y2 y3 y4 x0 x1 x2 x3 x4 zn
        go_loopw [10] (fun i wq => ∃ q : Nat, i = .int .i64 q ∧ q ≤ it2.length ∧ it2.findSome? (firstR p t d) = (it2.drop q).findSome? (firstR p t d) ∧ Below W1.heap.size W1 wq) (fun i _ => it2.length - (intOf i).toNat)
        case atStart => exact ⟨0, rfl, Nat.zero_le _, rfl, Below.refl _ _⟩
        case round =>
          rename World => wq
          obtain ⟨q, rfl, hq, hfq, hbq⟩ := hrel
          have HFQ := Hold.mk hfq
          have HBQ := Hold.mk hbq
          have HBW2 : Hold (Below w.heap.size w wq) := ⟨HBW.out.trans (hbq.mono HBW.out.size)⟩
          obtain ⟨x0, x1, x2, x3, x4⟩ := cells_five (kept HK1.out hbq)
          obtain ⟨y0, y1, y2, y3, y4⟩ := cells_five (kept HFR.out hbq)
          have zn := (HCW.out.trans (cle_below HBW2.out)) _ _ _ HN0.out
          unfold cf at zn
          clear hfq hbq
          by_cases hlt2 : q < it2.length
          · obtain ⟨u, hu⟩ : ∃ u, it2[q]? = some u := ⟨it2[q], List.getElem?_eq_getElem hlt2⟩
            obtain ⟨ub, uoff, k3, n3, t3, nm3, it3, na3, ncap3, ia3, icap3, rfl, hue, u0, u1, u2, u3, u4, huj⟩ := HI2.out q u hu
            have hcl := HCW.out.trans (cle_below HBW2.out)
            have z0 := hcl _ _ _ u0
            have z1 := hcl _ _ _ u1
            have z2 := hcl _ _ _ u2
            have z3 := hcl _ _ _ u3
            have z4 := hcl _ _ _ u4
            unfold cf at z0 z1 z2 z3 z4
            have HSTQ := Hold.mk (HFQ.out.trans (some_step (firstR p t d) hu))
            have HXX := Hold.mk (HIH.out u _ p t c wq (HIU.out u (List.mem_of_getElem? hu)) huj hcl HSP.out)
            clear u0 u1 u2 u3 u4 hcl hu hue huj zn y0 y1 y2 y3 y4
            go_wp2_with fail
            refine HXX.out.mono ?_
            rintro e w4 ⟨rv, rfl, ⟨k4, n4, t4, na4, nl4, nc4, ia4, il4, ic4, rfl⟩, hrv, hb4⟩
            have HB4 := Hold.mk (HBQ.out.trans (hb4.mono HBQ.out.size))
            have HBW4 : Hold (Below w.heap.size w w4) := ⟨HBW2.out.trans (hb4.mono HBW2.out.size)⟩
            have HRV := Hold.mk hrv
            obtain ⟨W5, hW5⟩ : ∃ W5, W5 = w4.alloc (.cells #[.int .i64 k4, .int .i64 n4, .string t4, .slice na4 nl4 nc4, .slice ia4 il4 ic4] 25) := ⟨_, rfl⟩
            have hb5 : Below w4.heap.size w4 W5 := by rw [hW5]; exact (Below.refl _ w4).alloc (Nat.le_refl _) _
            have HK5 : Hold (W5.heap[w4.heap.size]? = some (.cells #[.int .i64 k4, .int .i64 n4, .string t4, .slice na4 nl4 nc4, .slice ia4 il4 ic4] 25 (0, 0))) := ⟨by rw [hW5]; exact heap_alloc_new w4 _⟩
            have HB5 := Hold.mk (HB4.out.trans (hb5.mono HB4.out.size))
            have HBW5 : Hold (Below w.heap.size w W5) := ⟨HBW4.out.trans (hb5.mono HBW4.out.size)⟩
            clear hrv hb4 hb5 HXX z0 z1 z2 z3 z4 x0 x1 x2 x3 x4
            go_upto_region 10 with (fail)
            rw [← hW5]
            clear hW5
            cases hfu : firstR p t d u with
            | some y =>
              rw [hfu] at HSTQ
              have HO1 : Hold (o = some y) := ⟨by rw [HSTP.out, HGA.out, HSTQ.out]⟩
              obtain ⟨x0, x1, x2, x3, x4⟩ := cells_five HK5.out
              have HJY := Hold.mk (HRV.out y hfu)
              have HRR5 := Hold.mk (kept HRR.out HB5.out)
              clear hfu
              obtain ⟨r0, r1, r2, r3, r4⟩ := cells_five HRR5.out
              have f0 := free_box HRR5.out 0
              have f1 := free_box HRR5.out 1
              have f2 := free_box HRR5.out 2
              have f3 := free_box HRR5.out 3
              have f4 := free_box HRR5.out 4
              have HPO := Hold.mk (first_ret HBW5.out HRR5.out HO1.out HJY.out rfl)
              go_wp2_with fail
              obtain ⟨s0, s1, s2, s3, s4⟩ := cells_five (HPO.out.1)
              exact bodyPost_ret (v := .tuple #[.agg #[.int .i64 k4, .int .i64 n4, .string t4, .slice na4 nl4 nc4, .slice ia4 il4 ic4], .bool true]) (by simp [results, Tryz.results105, go_sem, s0, s1, s2, s3, s4]) rfl HPO.out.2
            | none =>
              rw [hfu] at HSTQ
              clear hfu
              go_wp2_with fail
              exact ⟨⟨q + 1, by go_num, hlt2, HSTQ.out, HB5.out⟩, by simp [intOf]; omega⟩
          · obtain rfl : q = it2.length := by omega
            have HN : Hold (G (s, v) = none) := ⟨by rw [HGA.out, HFQ.out, List.drop_length]; rfl⟩
            have HOJ2 : Hold (o = ((nm.zip it).drop (j + 1)).findSome? G) := ⟨by rw [HSTP.out, HN.out]⟩
            have HBE := Hold.mk (HBL.out.trans (HBQ.out.mono HBL.out.size))
            go_wp2_with fail
            exact ⟨⟨j + 1, by go_num, hlt, HOJ2.out, HBE.out⟩, by simp [intOf]; omega⟩
      · have hb : (s.toList == [36, 97, 110, 100]) = false := by simpa using hand
        have HGA : Hold (G (s, v) = if s = p then (if testsF v = true then (v.names.zip v.items).findSome? (fun q => if q.1 = t then some q.2 else none) else if t = bEq then some v else none) else none) := ⟨by rw [HGV.out]; unfold firstC; rw [if_neg (by rw [isN_no hand]; simp)]⟩
        clear hand
        by_cases hsp : s = p
        · have hspb : (s.toList == p.toList) = true := by rw [hsp]; simp
          replace HGA := Hold.mk (HGA.out.trans (if_pos hsp))
          clear hsp
          have HTS := Hold.mk (rTests_any v _ W1 (HXJ.out.mono (HCW.out.trans (cle_below HBW.out))))
          go_wp2_with fail
          refine HTS.out.mono ?_
          rintro e w4 ⟨rfl, hb4⟩
          replace HBL := Hold.mk (HBL.out.trans (hb4.mono HBL.out.size))
          replace HBW := Hold.mk (HBW.out.trans (hb4.mono HBW.out.size))
          replace HRR := Hold.mk (kept HRR.out hb4)
          replace HK1 := Hold.mk (kept HK1.out hb4)
          clear hb4 HTS y0 y1 y2 y3 y4 x0 x1 x2 x3 x4 zn
          obtain ⟨x0, x1, x2, x3, x4⟩ := cells_five HK1.out
          cases hts : testsF v with
          | false =>
            replace HGA := Hold.mk (HGA.out.trans (if_neg (by rw [hts]; simp)))
            clear hts
            by_cases hteq : t = bEq
            · have htb : (t.toList == [36, 101, 113]) = true := by rw [hteq, ByteArray.toList_eq]; rfl
              replace HGA := Hold.mk (HGA.out.trans (if_pos hteq))
              have HO1 : Hold (o = some v) := ⟨by rw [HSTP.out, HGA.out]⟩
              clear hteq
              obtain ⟨r0, r1, r2, r3, r4⟩ := cells_five HRR.out
              have f0 := free_box HRR.out 0
              have f1 := free_box HRR.out 1
              have f2 := free_box HRR.out 2
              have f3 := free_box HRR.out 3
              have f4 := free_box HRR.out 4
              have HPO := Hold.mk (first_ret HBW.out HRR.out HO1.out HXJ.out rfl)
              go_wp2_with fail
              obtain ⟨s0, s1, s2, s3, s4⟩ := cells_five (HPO.out.1)
              exact bodyPost_ret (v := .tuple #[.agg #[.int .i64 k2, .int .i64 n2, .string t2, .slice na2 nm2.length ncap2, .slice ia2 it2.length icap2], .bool true]) (by simp [results, Tryz.results105, go_sem, s0, s1, s2, s3, s4]) rfl HPO.out.2
            · have htb : (t.toList == [36, 101, 113]) = false := by
                have h := str_ne hteq
                rw [ByteArray.toList_eq bEq] at h
                exact h
              replace HGA := Hold.mk (HGA.out.trans (if_neg hteq))
              have HOJ2 : Hold (o = ((nm.zip it).drop (j + 1)).findSome? G) := ⟨by rw [HSTP.out, HGA.out]⟩
              clear hteq
              go_wp2_with fail
              exact ⟨⟨j + 1, by go_num, hlt, HOJ2.out, HBL.out⟩, by simp [intOf]; omega⟩
          | true =>
            replace HGA := Hold.mk (HGA.out.trans (if_pos hts))
            obtain ⟨na', nc', e, hnl2, hne2⟩ := (HXJ.out.parts HXE.out).1
            cases e
            obtain ⟨ia', icap', e, hil2, hie2⟩ := (HXJ.out.parts HXE.out).2
            cases e
            have HN2 := Hold.mk hne2
            have HI2 := Hold.mk hie2
            have hnl3 : nm2.length ≤ it2.length := by
              have h := HFV.out
              rw [HXE.out] at h
              cases d with
              | zero => simp [formedF] at h
              | succ d => exact (formed_nm h).1
            obtain ⟨H2, hH2⟩ : ∃ H2 : ByteArray × JV → Option JV, H2 = fun q => if q.1 = t then some q.2 else none := ⟨_, rfl⟩
            have HH2 := Hold.mk hH2
            have HGB : Hold (G (s, v) = (nm2.zip it2).findSome? H2) := ⟨by rw [HGA.out, hH2, HXE.out]; rfl⟩
            clear hts hne2 hie2 hH2 HGA
            go_wp2_with fail
            clear x0 x1 x2 x3 x4
            go_loopw [13] (fun i wq => ∃ q : Nat, i = .int .i64 q ∧ q ≤ nm2.length ∧ (nm2.zip it2).findSome? H2 = ((nm2.zip it2).drop q).findSome? H2 ∧ wq = w4) (fun i _ => nm2.length - (intOf i).toNat)
            case atStart => exact ⟨0, rfl, Nat.zero_le _, rfl, rfl⟩
            case round =>
              rename World => wq
              obtain ⟨q, rfl, hq, hfq, rfl⟩ := hrel
              have HFQ := Hold.mk hfq
              clear hfq
              obtain ⟨x0, x1, x2, x3, x4⟩ := cells_five HK1.out
              by_cases hlt2 : q < nm2.length
              · obtain ⟨r, hr⟩ : ∃ r, nm2[q]? = some r := ⟨nm2[q], List.getElem?_eq_getElem hlt2⟩
                have hlt3 : q < it2.length := by omega
                obtain ⟨u, hu⟩ : ∃ u, it2[q]? = some u := ⟨it2[q], List.getElem?_eq_getElem hlt3⟩
                obtain ⟨hrs, rb, roff, rfl, r0⟩ := HN2.out q r hr
                obtain ⟨ub, uoff, k3, n3, t3, nm3, it3, na3, ncap3, ia3, icap3, rfl, hue, u0, u1, u2, u3, u4, huj⟩ := HI2.out q u hu
                have hcl := HCW.out.trans (cle_below HBW.out)
                have zr := hcl _ _ _ r0
                have z0 := hcl _ _ _ u0
                have z1 := hcl _ _ _ u1
                have z2 := hcl _ _ _ u2
                have z3 := hcl _ _ _ u3
                have z4 := hcl _ _ _ u4
                unfold cf at zr z0 z1 z2 z3 z4
                have HSTQ := Hold.mk (HFQ.out.trans (some_step H2 (zip_at hr hu)))
                have HH3 : Hold (H2 (r, u) = if r = t then some u else none) := ⟨by rw [HH2.out]⟩
                have HUJ := Hold.mk huj
                clear r0 u0 u1 u2 u3 u4 hcl hr hu hue huj
                by_cases hrt : r = t
                · have hrb : (r.toList == t.toList) = true := by rw [hrt]; exact same_yes t
                  have HO1 : Hold (o = some u) := ⟨by rw [HSTP.out, HGB.out, HSTQ.out, HH3.out, if_pos hrt]⟩
                  clear hrt
                  obtain ⟨r0, r1, r2, r3, r4⟩ := cells_five HRR.out
                  have f0 := free_box HRR.out 0
                  have f1 := free_box HRR.out 1
                  have f2 := free_box HRR.out 2
                  have f3 := free_box HRR.out 3
                  have f4 := free_box HRR.out 4
                  have HPO := Hold.mk (first_ret HBW.out HRR.out HO1.out HUJ.out rfl)
                  go_wp2_with fail
                  obtain ⟨s0, s1, s2, s3, s4⟩ := cells_five (HPO.out.1)
                  exact bodyPost_ret (v := .tuple #[.agg #[.int .i64 k3, .int .i64 n3, .string t3, .slice na3 nm3.length ncap3, .slice ia3 it3.length icap3], .bool true]) (by simp [results, Tryz.results105, go_sem, s0, s1, s2, s3, s4]) rfl HPO.out.2
                · have hrb : (r.toList == t.toList) = false := str_ne hrt
                  have HFQ2 : Hold ((nm2.zip it2).findSome? H2 = ((nm2.zip it2).drop (q + 1)).findSome? H2) := ⟨by rw [HSTQ.out, HH3.out, if_neg hrt]⟩
                  clear hrt
                  go_wp2_with fail
                  exact ⟨⟨q + 1, by go_num, hlt2, HFQ2.out, trivial⟩, by simp [intOf]; omega⟩
              · obtain rfl : q = nm2.length := by omega
                have HN : Hold (G (s, v) = none) := ⟨by rw [HGB.out, HFQ.out, List.drop_eq_nil_of_le (by rw [List.length_zip]; omega)]; rfl⟩
                have HOJ2 : Hold (o = ((nm.zip it).drop (j + 1)).findSome? G) := ⟨by rw [HSTP.out, HN.out]⟩
                go_wp2_with fail
                exact ⟨⟨j + 1, by go_num, hlt, HOJ2.out, HBL.out⟩, by simp [intOf]; omega⟩
        · have hspb : (s.toList == p.toList) = false := str_ne hsp
          replace HGA := Hold.mk (HGA.out.trans (if_neg hsp))
          have HOJ2 : Hold (o = ((nm.zip it).drop (j + 1)).findSome? G) := ⟨by rw [HSTP.out, HGA.out]⟩
          clear hsp
          go_wp2_with fail
          exact ⟨⟨j + 1, by go_num, hlt, HOJ2.out, HBL.out⟩, by simp [intOf]; omega⟩
    · obtain rfl : j = nm.length := by omega
      have HON : Hold (o = none) := ⟨by rw [HOJ.out, List.drop_eq_nil_of_le (by rw [List.length_zip]; omega)]; rfl⟩
      obtain ⟨r0, r1, r2, r3, r4⟩ := cells_five HRR.out
      have f0 := free_box HRR.out 0
      have f1 := free_box HRR.out 1
      have f2 := free_box HRR.out 2
      have f3 := free_box HRR.out 3
      have f4 := free_box HRR.out 4
      have HPO := Hold.mk (first_not c HBW.out HRR.out HON.out rfl)
      go_wp2_with fail
      obtain ⟨s0, s1, s2, s3, s4⟩ := cells_five (HPO.out.1)
      exact bodyPost_ret (v := .tuple #[.agg zero5, .bool false]) (by simp [results, Tryz.results105, go_sem, s0, s1, s2, s3, s4]) rfl HPO.out.2

theorem rfirst_any : ∀ d, RFirstAt d
  | 0 => fun f _ _ _ _ _ hf => by simp [formedF] at hf
  | d + 1 => rfirst_succ d (rfirst_any d)

end Go.Proofs.YtcmfanfkcbjeoaaGreatDoor
