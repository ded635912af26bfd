/- Writes: Put of the reference. (printed by genXWH.py) -/
import Derived.Test.YtkhhbckpddkhlaaGreatDoorWG
namespace Go.Proofs.YtkhhbckpddkhlaaGreatDoor
open Go.Shelf Go.RowKit

theorem putWL_set2 {x : WR} {l : List WR} (h : foundW x l = true) : putWL x l = l.take (placeW x l) ++ x :: l.drop (placeW x l + 1) := by
  unfold putWL; rw [h]

set_option maxRecDepth 100000 in
set_option maxHeartbeats 16000000 in
theorem wrPut_any (l : List WR) (lv : Value) (x : WR) (w : World) (hl : SAt 4 RW (cf w) lv l) (hsm : ∀ y ∈ l, y.id.size ≤ 1000000 ∧ y.text.size ≤ 20000) (hxi : x.id.size ≤ 1000000) (hxt : x.text.size ≤ 20000) (hxs : (Lit.int .i64 x.sp).wf = true) :
    Calls Tryz.prog 32 #[lv, .agg x.cells] w (PutPost l x w) := by
  have HRX : Hold (∀ c, RW c x x.cells.toList) := ⟨fun c => ⟨rfl, by omega, by omega, hxs⟩⟩
  have HLV := Hold.mk hl
  obtain ⟨la, lcap, rfl, hle, hcap, hel⟩ := hl
  have HE := Hold.mk hel
  obtain ⟨s, i, g, t⟩ := x
  unfold WR.cells at HRX ⊢
  simp only at hxi hxt hxs HRX ⊢
  obtain ⟨W, hW⟩ : ∃ W, W = w.alloc (.cells #[.int .i64 s, .string i, .bool g, .string t] 60) := ⟨_, rfl⟩
  have hb : Below w.heap.size w W := by rw [hW]; exact (Below.refl _ w).alloc (Nat.le_refl _) _
  have HX : Hold (W.heap[w.heap.size]? = some (.cells #[.int .i64 s, .string i, .bool g, .string t] 60 (0, 0))) := ⟨by rw [hW]; exact heap_alloc_new w _⟩
  have HB := Hold.mk hb
  have HF := Hold.mk (wrFormed_any l _ W (HLV.out.mono RW_mono (cle_below hb)) hsm)
  clear hb hsm hel
  go_enter Tryz.func32, Tryz.ntmps32
  go_upto_region 1 with (fail)
  rw [← hW]
  clear hW
  go_wp2_with fail
  refine HF.out.mono ?_
  rintro e w2 ⟨rfl, hb2⟩
  replace HB := Hold.mk (HB.out.trans (hb2.mono HB.out.size))
  replace HX := Hold.mk (keptR HX.out hb2)
  clear hb2 HF
  obtain ⟨fm, hfm⟩ : ∃ fm, formedW l = fm := ⟨_, rfl⟩
  rw [hfm]
  have HFM := Hold.mk hfm
  clear hfm
  cases fm with
  | false =>
    have HR := Hold.mk (put_er (l := l) (x := ⟨s, i, g, t⟩) (by rw [HFM.out]; rfl))
    have HBF := HB.out
    go_wp2_with fail
    go_ret2
    exact put_bad HR.out (by decide) HBF
  | true =>
  obtain ⟨y0, y1, y2, y3⟩ := cells4W HX.out
  go_wp2_with fail
  clear y0 y1 y2 y3
  refine (rOne_any ⟨s, i, g, t⟩ w2 hxi hxt).mono ?_
  rintro e w3 ⟨rfl, hb3⟩
  replace HB := Hold.mk (HB.out.trans (hb3.mono HB.out.size))
  replace HX := Hold.mk (keptR HX.out hb3)
  clear hb3
  obtain ⟨on, hon⟩ : ∃ on, oneF ⟨s, i, g, t⟩ = on := ⟨_, rfl⟩
  rw [hon]
  have HON := Hold.mk hon
  clear hon
  cases on with
  | false =>
    have HR := Hold.mk (put_er (l := l) (x := ⟨s, i, g, t⟩) (by rw [HFM.out, HON.out]; rfl))
    have HBF := HB.out
    go_wp2_with fail
    go_ret2
    exact put_bad HR.out (by decide) HBF
  | true =>
  obtain ⟨hup, hl12⟩ := formedW_up HFM.out
  have HUP := Hold.mk hup
  clear hup
  have HO : Hold (OwnS 4 RW 60 (w.heap.size + 1) w3 (.slice none 0 0) 0 ([] : List WR) []) := ⟨OwnS.start _ _ _ (by have := ltR HX.out; omega)⟩
  go_wp2_with fail
  go_loopw [6, 7] (fun sl i' wr => ∃ (j : Nat) (cs : List Value), i' = .int .i64 j ∧ j ≤ l.length ∧ (∀ (q : Nat) a, q < j → l[q]? = some a → ltW a ⟨s, i, g, t⟩ = true) ∧ OwnS 4 RW 60 (w.heap.size + 1) wr sl j (l.take j) cs ∧ Below w.heap.size w wr ∧ wr.heap[w.heap.size]? = some (.cells #[.int .i64 s, .string i, .bool g, .string t] 60 (0, 0))) (fun _ i' _ => l.length - (intOf i').toNat)
  case atStart => exact ⟨0, [], rfl, Nat.zero_le _, fun q a h => by omega, HO.out, HB.out, HX.out⟩
  case round =>
    obtain ⟨j, cs, rfl, hj, hall, hown, hbl, hbx⟩ := hrel
    clear HO HB HX
    obtain ⟨ks, hks⟩ : ∃ ks, ks = l.take j := ⟨_, rfl⟩
    rw [← hks] at hown
    obtain ⟨ja, jcap, rfl⟩ := hown.shape
    have HO := Hold.mk hown
    have HB := Hold.mk hbl
    have HX := Hold.mk hbx
    have HALL := Hold.mk hall
    have HKS := Hold.mk hks
    clear hown hbl hbx hall hks
    by_cases hlt : j < l.length
    · obtain ⟨y, hy⟩ : ∃ y, l[j]? = some y := ⟨l[j], List.getElem?_eq_getElem hlt⟩
      obtain ⟨b, off, d, rfl, hd, hc, hyi⟩ := HE.out j y hy
      have HRY : Hold (∀ c, RW c y y.cells.toList) := ⟨fun c => ⟨rfl, hyi.2⟩⟩
      obtain ⟨rfl, _, _, _⟩ := hyi
      have HY := Hold.mk hy
      obtain ⟨s2, i2, g2, t2⟩ := y
      unfold WR.cells at HRY
      simp only at HRY
      have HC0 := Hold.mk (hc 0 _ rfl)
      have HC1 := Hold.mk (hc 1 _ rfl)
      have HC2 := Hold.mk (hc 2 _ rfl)
      have HC3 := Hold.mk (hc 3 _ rfl)
      have hcl := cle_below HB.out
      have z0 := hcl _ _ _ HC0.out
      have z1 := hcl _ _ _ HC1.out
      have z2 := hcl _ _ _ HC2.out
      have z3 := hcl _ _ _ HC3.out
      unfold cf at z0 z1 z2 z3
      rw [Nat.add_zero] at z0
      replace z0 := Grow.cell z0
      replace z1 := Grow.cell z1
      replace z2 := Grow.cell z2
      replace z3 := Grow.cell z3
      obtain ⟨y0, y1, y2, y3⟩ := cells4W HX.out
      replace y0 := Grow.cell y0
      replace y1 := Grow.cell y1
      replace y2 := Grow.cell y2
      replace y3 := Grow.cell y3
      clear hy hd hc hcl
      have HC : Hold (∀ e : Grow wr, Calls Tryz.prog 74 #[.agg #[.int .i64 s2, .string i2, .bool g2, .string t2], .agg #[.int .i64 s, .string i, .bool g, .string t]] e.val fun r w' => r = .returned (.bool (ltW ⟨s2, i2, g2, t2⟩ ⟨s, i, g, t⟩)) ∧ Below e.val.heap.size e.val w') := ⟨fun e => rLess_any ⟨s2, i2, g2, t2⟩ ⟨s, i, g, t⟩ e.val⟩
      obtain ⟨lt, hlw⟩ : ∃ lt, ltW ⟨s2, i2, g2, t2⟩ ⟨s, i, g, t⟩ = lt := ⟨_, rfl⟩
      rw [hlw] at HC
      have HLW := Hold.mk hlw
      clear hlw
      replace HC := Hold.mk (Calls.grow HC.out)
      go_upto_region 5 with (fail)
      cases lt with
      | true =>
        have HTK : Hold (l.take (j + 1) = ks ++ [⟨s2, i2, g2, t2⟩]) := ⟨by rw [take_nextW HY.out, ← HKS.out]⟩
        have HA2 : Hold (∀ (q : Nat) a, q < j + 1 → l[q]? = some a → ltW a ⟨s, i, g, t⟩ = true) := ⟨fun q a hq ha => by
          by_cases e : q = j
          · subst e; rw [HY.out] at ha; cases ha; exact HLW.out
          · exact HALL.out q a (by omega) ha⟩
        refine wp_region_grow (by kernel_rfl) (by kernel_rfl) ?_
        repeat (go_big_quiet_step (exact HC.out _))
        refine wpQuiet_nil ?_
        rintro ⟨w5, hb5⟩
        replace HB := Hold.mk (HB.out.trans (hb5.mono HB.out.size))
        replace HX := Hold.mk (keptR HX.out hb5)
        replace HO := Hold.mk (HO.out.quiet RW_mono hb5)
        simp only
        clear hb5 z0 z1 z2 z3 y0 y1 y2 y3 HC
        have hcl := cle_below HB.out
        have z0 := hcl _ _ _ HC0.out
        have z1 := hcl _ _ _ HC1.out
        have z2 := hcl _ _ _ HC2.out
        have z3 := hcl _ _ _ HC3.out
        unfold cf at z0 z1 z2 z3
        rw [Nat.add_zero] at z0
        clear hcl
        go_wp2_with (at_builtin; refine push_new RW_mono rfl _ _ rfl infoWr Tryz.underlying62 rfl (by decide) _ _ _ j _ _ HO.out rfl _ [_, _, _, _] rfl rfl (by simp [Value.oneCell']) (⟨s2, i2, g2, t2⟩ : WR) (HRY.out _) _ rfl rfl (by omega) (by decide) ?_)
        intro sl2 w6 ho6 hg6
        have HN : Hold (OwnS 4 RW 60 (w.heap.size + 1) w6 sl2 (j + 1) (l.take (j + 1)) _) := ⟨by rw [HTK.out]; exact ho6⟩
        have HW := Hold.mk (HB.out.trans ((HO.out.below hg6).mono (by omega)))
        have HX6 := Hold.mk (((HO.out.below hg6).block _ (by omega)).trans HX.out)
        clear ho6 hg6 z0 z1 z2 z3
        go_wp2_with fail
        exact ⟨⟨j + 1, _, by go_num, hlt, HA2.out, HN.out, HW.out, HX6.out⟩, by simp [intOf]; omega⟩
      | false =>
        refine wp_region_grow (by kernel_rfl) (by kernel_rfl) ?_
        repeat (go_big_quiet_step (exact HC.out _))
        refine wpQuiet_nil ?_
        rintro ⟨w5, hb5⟩
        replace HB := Hold.mk (HB.out.trans (hb5.mono HB.out.size))
        replace HX := Hold.mk (keptR HX.out hb5)
        replace HO := Hold.mk (HO.out.quiet RW_mono hb5)
        simp only
        clear hb5 z0 z1 z2 z3 y0 y1 y2 y3 HC
        have HK : Hold (placeW ⟨s, i, g, t⟩ l = j) := ⟨placeW_eq hj HALL.out (fun y hy => by rw [HY.out] at hy; cases hy; exact HLW.out)⟩
        obtain ⟨y0, y1, y2, y3⟩ := cells4W HX.out

        go_wp2_with (at_builtin; refine push_new RW_mono rfl _ _ rfl infoWr Tryz.underlying62 rfl (by decide) _ _ _ j _ _ HO.out rfl _ [_, _, _, _] rfl rfl (by simp [Value.oneCell']) (⟨s, i, g, t⟩ : WR) (HRX.out _) _ rfl rfl (by omega) (by decide) ?_)
        intro sv2 w3 ho3 hg3
        obtain ⟨ka, kcap, rfl⟩ := ho3.shape
        replace HX := Hold.mk ((((HO.out.below hg3).block _ (by omega) : w3.heap[w.heap.size]? = _)).trans HX.out)
        replace HB := Hold.mk (HB.out.trans ((HO.out.below hg3).mono (by omega)))
        replace HO := Hold.mk ho3
        clear ho3 hg3
        clear y0 y1 y2 y3
        obtain ⟨y0, y1, y2, y3⟩ := cells4W HX.out
        replace y0 := Grow.cell y0
        replace y1 := Grow.cell y1
        replace y2 := Grow.cell y2
        replace y3 := Grow.cell y3
        have hcl := cle_below HB.out
        have z0 := hcl _ _ _ HC0.out
        have z1 := hcl _ _ _ HC1.out
        have z2 := hcl _ _ _ HC2.out
        have z3 := hcl _ _ _ HC3.out
        unfold cf at z0 z1 z2 z3
        rw [Nat.add_zero] at z0
        replace z0 := Grow.cell z0
        replace z1 := Grow.cell z1
        replace z2 := Grow.cell z2
        replace z3 := Grow.cell z3
        clear hcl
        have HC : Hold (∀ e : Grow w3, Calls Tryz.prog 74 #[.agg #[.int .i64 s, .string i, .bool g, .string t], .agg #[.int .i64 s2, .string i2, .bool g2, .string t2]] e.val fun r w' => r = .returned (.bool (ltW ⟨s, i, g, t⟩ ⟨s2, i2, g2, t2⟩)) ∧ Below e.val.heap.size e.val w') := ⟨fun e => rLess_any ⟨s, i, g, t⟩ ⟨s2, i2, g2, t2⟩ e.val⟩
        obtain ⟨gt, hgt⟩ : ∃ gt, ltW ⟨s, i, g, t⟩ ⟨s2, i2, g2, t2⟩ = gt := ⟨_, rfl⟩
        rw [hgt] at HC
        have HGT := Hold.mk hgt
        clear hgt
        replace HC := Hold.mk (Calls.grow HC.out)
        have HFQ : Hold (foundW ⟨s, i, g, t⟩ l = sameW ⟨s2, i2, g2, t2⟩ ⟨s, i, g, t⟩) := ⟨by unfold foundW; rw [HK.out, HY.out]⟩
        go_upto_region 9 with (fail)
        cases gt with
        | false =>
          have HFD : Hold (foundW ⟨s, i, g, t⟩ l = true) := ⟨by rw [HFQ.out]; exact sameW_of HLW.out HGT.out⟩
          refine wp_region_grow (by kernel_rfl) (by kernel_rfl) ?_
          repeat (go_big_quiet_step (exact HC.out _))
          refine wpQuiet_nil ?_
          rintro ⟨w5, hb5⟩
          replace HB := Hold.mk (HB.out.trans (hb5.mono HB.out.size))
          replace HO := Hold.mk (HO.out.quiet RW_mono hb5)
          simp only
          clear hb5 z0 z1 z2 z3 y0 y1 y2 y3 HC HX
          obtain ⟨a', hsl0, hsl1⟩ := slice_tail (n := 4) Tryz.underlying62 (by kernel_rfl) infoWr (some ⟨b, off, none⟩) l.length lcap (j + 1) (by omega) (by omega) hcap
          have hsl : ∀ w, (Instr.slice 62 (.slice (some ⟨b, off, none⟩) l.length lcap) (some (.int .i64 ((j : Int) + 1))) none none).run Tryz.prog w = .ok (.slice a' (l.length - (j + 1)) (lcap - (j + 1))) w := hsl0
          have HYS : Hold (SAt 4 RW (cfN (.slice ka (j + 1) kcap) w5) (.slice a' (l.length - (j + 1)) (lcap - (j + 1))) (l.drop (j + 1))) := ⟨hsl1 rfl (HLV.out.mono RW_mono (cle_cfN_old HB.out (fun g hg => by have := (HO.out.low g hg).1; omega)))⟩
          clear hsl0 hsl1
          obtain ⟨ds, hds⟩ : ∃ ds, ds = l.drop (j + 1) := ⟨_, rfl⟩
          rw [← hds] at HYS
          have HDL : Hold (ds.length = l.length - (j + 1)) := ⟨by rw [hds, List.length_drop]⟩
          have HDS := Hold.mk hds
          clear hds
          go_wp2_with (at_builtin; refine push_src RW_mono RW_one rfl _ _ rfl infoWr Tryz.underlying62 rfl (by decide) _ _ _ (j + 1) _ _ HO.out rfl _ ds HYS.out rfl (by have := HDL.out; omega) (by decide) ?_)
          intro sv4 w4 cs4 ho4 hg4
          have hbl : Below w.heap.size w w4 := HB.out.trans ((HO.out.below hg4).mono (by omega))
          have HPL : Hold (putWL ⟨s, i, g, t⟩ l = l.take j ++ ⟨s, i, g, t⟩ :: ds) := ⟨by rw [putWL_set2 HFD.out, HK.out, HDS.out]⟩
          have HLEN : Hold (j + 1 + ds.length = if foundW ⟨s, i, g, t⟩ l = true then l.length else l.length + 1) := ⟨by rw [HDL.out, HFD.out]; first | (simp; done) | (simp; omega)⟩
          rw [HFD.out] at HLEN
          obtain ⟨N, hN⟩ : ∃ N, N = j + 1 + ds.length := ⟨_, rfl⟩
          rw [← hN] at ho4 HLEN
          have HO4 : Hold (SAt 4 RW (cf w4) sv4 (putWL ⟨s, i, g, t⟩ l)) := ⟨by rw [HPL.out, ← HKS.out]; exact ho4.at_ RW_mono⟩
          obtain ⟨ra, rcap, rfl⟩ := ho4.shape
          have HBF := Hold.mk hbl
          clear hN ho4 hg4 hbl hsl HYS
          have hN12 : N ≤ 12 := by have := HLEN.out; simp at this; omega
          have k12 : ¬ (12 : Int) < (N : Int) := by omega
          have HPF : Hold (PutPost l ⟨s, i, g, t⟩ w (.returned (.tuple #[.slice ra N rcap, .int .i64 0])) w4) := ⟨put_fine (put_found HFM.out HON.out HFD.out) HO4.out HBF.out⟩
          go_wp2_with fail
          go_ret2
          exact HPF.out
        | true =>
          have HFD : Hold (foundW ⟨s, i, g, t⟩ l = false) := ⟨by
            rw [HFQ.out]
            cases hs : sameW ⟨s2, i2, g2, t2⟩ ⟨s, i, g, t⟩ with
            | false => rfl
            | true => rw [(sameW_lt hs).2] at HGT; cases HGT.out⟩
          refine wp_region_grow (by kernel_rfl) (by kernel_rfl) ?_
          repeat (go_big_quiet_step (exact HC.out _))
          refine wpQuiet_nil ?_
          rintro ⟨w5, hb5⟩
          replace HB := Hold.mk (HB.out.trans (hb5.mono HB.out.size))
          replace HO := Hold.mk (HO.out.quiet RW_mono hb5)
          simp only
          clear hb5 z0 z1 z2 z3 y0 y1 y2 y3 HC HX
          obtain ⟨a', hsl0, hsl1⟩ := slice_tail (n := 4) Tryz.underlying62 (by kernel_rfl) infoWr (some ⟨b, off, none⟩) l.length lcap (j) (by omega) (by omega) hcap
          have hsl : ∀ w, (Instr.slice 62 (.slice (some ⟨b, off, none⟩) l.length lcap) (some (.int .i64 ((j : Int)))) none none).run Tryz.prog w = .ok (.slice a' (l.length - (j)) (lcap - (j))) w := hsl0
          have HYS : Hold (SAt 4 RW (cfN (.slice ka (j + 1) kcap) w5) (.slice a' (l.length - (j)) (lcap - (j))) (l.drop (j))) := ⟨hsl1 rfl (HLV.out.mono RW_mono (cle_cfN_old HB.out (fun g hg => by have := (HO.out.low g hg).1; omega)))⟩
          clear hsl0 hsl1
          obtain ⟨ds, hds⟩ : ∃ ds, ds = l.drop (j) := ⟨_, rfl⟩
          rw [← hds] at HYS
          have HDL : Hold (ds.length = l.length - (j)) := ⟨by rw [hds, List.length_drop]⟩
          have HDS := Hold.mk hds
          clear hds
          go_wp2_with (at_builtin; refine push_src RW_mono RW_one rfl _ _ rfl infoWr Tryz.underlying62 rfl (by decide) _ _ _ (j + 1) _ _ HO.out rfl _ ds HYS.out rfl (by have := HDL.out; omega) (by decide) ?_)
          intro sv4 w4 cs4 ho4 hg4
          have hbl : Below w.heap.size w w4 := HB.out.trans ((HO.out.below hg4).mono (by omega))
          have HPL : Hold (putWL ⟨s, i, g, t⟩ l = l.take j ++ ⟨s, i, g, t⟩ :: ds) := ⟨by rw [putWL_ins HFD.out, HK.out, HDS.out]⟩
          have HLEN : Hold (j + 1 + ds.length = if foundW ⟨s, i, g, t⟩ l = true then l.length else l.length + 1) := ⟨by rw [HDL.out, HFD.out]; first | (simp; done) | (simp; omega)⟩
          rw [HFD.out] at HLEN
          obtain ⟨N, hN⟩ : ∃ N, N = j + 1 + ds.length := ⟨_, rfl⟩
          rw [← hN] at ho4 HLEN
          have HO4 : Hold (SAt 4 RW (cf w4) sv4 (putWL ⟨s, i, g, t⟩ l)) := ⟨by rw [HPL.out, ← HKS.out]; exact ho4.at_ RW_mono⟩
          obtain ⟨ra, rcap, rfl⟩ := ho4.shape
          have HBF := Hold.mk hbl
          clear hN ho4 hg4 hbl hsl HYS
          have hN13 : N = l.length + 1 := by have := HLEN.out; simpa using this
          by_cases h12 : l.length = 12
          · have k12 : (12 : Int) < (N : Int) := by omega
            have HR := Hold.mk (put_full (x := ⟨s, i, g, t⟩) HFM.out HON.out HFD.out h12)
            clear hN13 h12
            go_wp2_with fail
            go_ret2
            exact put_bad HR.out (by decide) HBF.out
          · have k12 : ¬ (12 : Int) < (N : Int) := by omega
            have HPF : Hold (PutPost l ⟨s, i, g, t⟩ w (.returned (.tuple #[.slice ra N rcap, .int .i64 0])) w4) := ⟨put_fine (put_room HFM.out HON.out HFD.out h12) HO4.out HBF.out⟩
            clear hN13 h12
            go_wp2_with fail
            go_ret2
            exact HPF.out
    · obtain rfl : j = l.length := by omega
      have HK : Hold (placeW ⟨s, i, g, t⟩ l = l.length) := ⟨placeW_eq (Nat.le_refl _) HALL.out (fun y hy => by have := (List.getElem?_eq_some_iff.1 hy).1; omega)⟩
      have HFD : Hold (foundW ⟨s, i, g, t⟩ l = false) := ⟨by unfold foundW; rw [HK.out, List.getElem?_eq_none (Nat.le_refl _)]⟩
      go_upto_region 5 with (fail)
      refine wp_region_grow (by kernel_rfl) (by kernel_rfl) ?_
      repeat (go_big_quiet_step (fail))
      refine wpQuiet_nil ?_
      rintro ⟨w5, hb5⟩
      replace HB := Hold.mk (HB.out.trans (hb5.mono HB.out.size))
      replace HX := Hold.mk (keptR HX.out hb5)
      replace HO := Hold.mk (HO.out.quiet RW_mono hb5)
      simp only
      clear hb5
      obtain ⟨y0, y1, y2, y3⟩ := cells4W HX.out
      go_wp2_with (at_builtin; refine push_new RW_mono rfl _ _ rfl infoWr Tryz.underlying62 rfl (by decide) _ _ _ l.length _ _ HO.out rfl _ [_, _, _, _] rfl rfl (by simp [Value.oneCell']) (⟨s, i, g, t⟩ : WR) (HRX.out _) _ rfl rfl (by omega) (by decide) ?_)
      intro sv2 w3 ho3 hg3
      obtain ⟨ka, kcap, rfl⟩ := ho3.shape
      replace HX := Hold.mk ((((HO.out.below hg3).block _ (by omega) : w3.heap[w.heap.size]? = _)).trans HX.out)
      replace HB := Hold.mk (HB.out.trans ((HO.out.below hg3).mono (by omega)))
      replace HO := Hold.mk ho3
      clear ho3 hg3
      clear y0 y1 y2 y3
      go_upto_region 9 with (fail)
      refine wp_region_grow (by kernel_rfl) (by kernel_rfl) ?_
      repeat (go_big_quiet_step (fail))
      refine wpQuiet_nil ?_
      rintro ⟨w5, hb5⟩
      replace HB := Hold.mk (HB.out.trans (hb5.mono HB.out.size))
      replace HO := Hold.mk (HO.out.quiet RW_mono hb5)
      simp only
      clear hb5 HX
      obtain ⟨a', hsl0, hsl1⟩ := slice_tail (n := 4) Tryz.underlying62 (by kernel_rfl) infoWr la l.length lcap (l.length) (by omega) (by omega) hcap
      have hsl : ∀ w, (Instr.slice 62 (.slice la l.length lcap) (some (.int .i64 (l.length : Int))) none none).run Tryz.prog w = .ok (.slice a' 0 (lcap - l.length)) w := fun w => by have h := hsl0 w; rw [Nat.sub_self] at h; exact h
      have HYS : Hold (SAt 4 RW (cfN (.slice ka (l.length + 1) kcap) w5) (.slice a' 0 (lcap - l.length)) (l.drop l.length)) := ⟨by have h := hsl1 rfl (HLV.out.mono RW_mono (cle_cfN_old (s := .slice ka (l.length + 1) kcap) HB.out (fun g hg => by have := (HO.out.low g hg).1; omega))); rw [Nat.sub_self] at h; exact h⟩
      clear hsl0 hsl1
      obtain ⟨ds, hds⟩ : ∃ ds, ds = l.drop (l.length) := ⟨_, rfl⟩
      rw [← hds] at HYS
      have HDL : Hold (ds.length = l.length - (l.length)) := ⟨by rw [hds, List.length_drop]⟩
      have HDS := Hold.mk hds
      clear hds
      go_wp2_with (at_builtin; refine push_src RW_mono RW_one rfl _ _ rfl infoWr Tryz.underlying62 rfl (by decide) _ _ _ (l.length + 1) _ _ HO.out rfl _ ds HYS.out rfl (by have := HDL.out; omega) (by decide) ?_)
      intro sv4 w4 cs4 ho4 hg4
      have hbl : Below w.heap.size w w4 := HB.out.trans ((HO.out.below hg4).mono (by omega))
      have HPL : Hold (putWL ⟨s, i, g, t⟩ l = l.take l.length ++ ⟨s, i, g, t⟩ :: ds) := ⟨by rw [putWL_ins HFD.out, HK.out, HDS.out]⟩
      have HLEN : Hold (l.length + 1 + ds.length = if foundW ⟨s, i, g, t⟩ l = true then l.length else l.length + 1) := ⟨by rw [HDL.out, HFD.out]; first | (simp; done) | (simp; omega)⟩
      rw [HFD.out] at HLEN
      obtain ⟨N, hN⟩ : ∃ N, N = l.length + 1 + ds.length := ⟨_, rfl⟩
      rw [← hN] at ho4 HLEN
      have HO4 : Hold (SAt 4 RW (cf w4) sv4 (putWL ⟨s, i, g, t⟩ l)) := ⟨by rw [HPL.out, ← HKS.out]; exact ho4.at_ RW_mono⟩
      obtain ⟨ra, rcap, rfl⟩ := ho4.shape
      have HBF := Hold.mk hbl
      clear hN ho4 hg4 hbl hsl HYS
      have hN13 : N = l.length + 1 := by have := HLEN.out; simpa using this
      by_cases h12 : l.length = 12
      · have k12 : (12 : Int) < (N : Int) := by omega
        have HR := Hold.mk (put_full (x := ⟨s, i, g, t⟩) HFM.out HON.out HFD.out h12)
        clear hN13 h12
        go_wp2_with fail
        go_ret2
        exact put_bad HR.out (by decide) HBF.out
      · have k12 : ¬ (12 : Int) < (N : Int) := by omega
        have HPF : Hold (PutPost l ⟨s, i, g, t⟩ w (.returned (.tuple #[.slice ra N rcap, .int .i64 0])) w4) := ⟨put_fine (put_room HFM.out HON.out HFD.out h12) HO4.out HBF.out⟩
        clear hN13 h12
        go_wp2_with fail
        go_ret2
        exact HPF.out

end Go.Proofs.YtkhhbckpddkhlaaGreatDoor
