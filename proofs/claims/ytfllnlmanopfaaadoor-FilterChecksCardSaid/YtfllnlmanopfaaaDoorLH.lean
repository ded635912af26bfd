/- Filters: FilterChecks walked. -/
import Derived.Test.YtfllnlmanopfaaaDoorLG
import Derived.Test.YtfllnlmanopfaaaDoorFS
namespace Go.Proofs.YtfllnlmanopfaaaDoor
open Go.RowKit

set_option maxRecDepth 100000 in
set_option maxHeartbeats 16000000 in
theorem filterChecks_walk (f : JV) (fv : Value) (w : World) (hf : JAt (cf w) f fv) (hT : Tabs w) :
    Calls Tryd.prog 11 #[fv] w fun e w' => e = .returned (.bool true) ∧ Below w.heap.size w w' := by
  obtain ⟨k, n, t, nm, it, na, ncap, ia, icap, hfe, rfl, _⟩ := hf.open
  have HX := Hold.mk hf
  have HT := Hold.mk hT
  have HB := Hold.mk (Boxed.refl w (.cells #[.int .i64 k, .int .i64 n, .string t, .slice na nm.length ncap, .slice ia it.length icap] 25))
  clear hf hT hfe
  go_enter Tryd.func11, Tryd.ntmps11
  go_wp2_with fail
  refine (awake15_any _ (HT.out.below HB.out.below)).mono ?_
  rintro e w1 ⟨rfl, hb1⟩
  replace HB := Hold.mk (HB.out.next hb1)
  clear hb1
  obtain ⟨y0, y1, y2, y3, y4⟩ := cells_five HB.out.blk
  go_wp2_with fail
  have hf3 := few15_any _ [f] _ (items1 (t := 25) (fr := (0, 0)) (al_new (w := w1) rfl) ((HX.out.mono (cle_below HB.out.below)).mono (cle_alloc _ _)))
  refine hf3.mono ?_
  clear hf3
  rintro e w2 ⟨rfl, hb2⟩
  replace HB := Hold.mk ((HB.out.next ((Below.refl _ w1).alloc (Nat.le_refl _) _)).next hb2)
  clear hb2 y0 y1 y2 y3 y4
  cases hfew : [f].all fewF with
  | false =>
    clear hfew
    go_wp2_with fail
    refine (awake15_any _ (HT.out.below HB.out.below)).mono ?_
    rintro e w3 ⟨rfl, hb3⟩
    replace HB := Hold.mk (HB.out.next hb3)
    clear hb3
    go_wp2_with fail
    go_ret
    exact ⟨rfl, HB.out.below⟩
  | true =>
    clear hfew
    obtain ⟨y0, y1, y2, y3, y4⟩ := cells_five HB.out.blk
    have g0 := Grow.cell y0
    have g1 := Grow.cell y1
    have g2 := Grow.cell y2
    have g3 := Grow.cell y3
    have g4 := Grow.cell y4
    go_wp2_with fail
    clear y0 y1 y2 y3 y4
    refine wp_region_mix 6 rfl (by kernel_rfl) ?_
    rintro w3 hb3
    refine mixl_seg (by kernel_rfl) (fun _ _ d _ _ h => by cases d <;> exact h) [0, 2] [_, _] 4 6 rfl _ _ _ rfl (by kernel_rfl) (growC hb3) ?_
    repeat (go_big_quiet_step (fail))
    refine wpQuiet_nil ?_
    clear g0 g1 g2 g3 g4
    have HB3 := Hold.mk hb3
    clear hb3
    refine mixl_act (i := 1) rfl (by kernel_rfl) (growC HB3.out) rfl (fun K hK => ?_)
    go_wp2_with fail
    refine (Paths_any f _ _ (HX.out.mono (cle_below (HB.out.next HB3.out).below)) (HT.out.below (HB.out.next HB3.out).below)).mono ?_
    rintro e w4 ⟨s1, rfl, hs1, hb4⟩
    replace HB3 := Hold.mk (HB3.out.trans (hb4.mono HB3.out.size))
    have HS1 := Hold.mk hs1
    clear hb4 hs1
    go_wp2_with fail
    refine mixl_act (i := 3) rfl (by kernel_rfl) (growC HB3.out) rfl (fun K hK => ?_)
    go_wp2_with fail
    refine (rPaths_any f _ _ (HX.out.mono (cle_below (HB.out.next HB3.out).below))).mono ?_
    rintro e w5 ⟨s2, rfl, hs2, hb5⟩
    replace HB3 := Hold.mk (HB3.out.trans (hb5.mono HB3.out.size))
    replace HS1 := Hold.mk (HS1.out.mono RS_mono (cle_below hb5))
    have HS2 := Hold.mk hs2
    clear hb5 hs2
    go_wp2_with fail
    refine mixl_seg (by kernel_rfl) (fun _ _ d _ _ h => by cases d <;> exact h) [4, 5] [_, _] 0 2 rfl _ _ _ rfl (by kernel_rfl) (growC HB3.out) ?_
    repeat (go_big_quiet_step (fail))
    refine wpQuiet_nil ?_
    refine mix_done (by kernel_rfl) (growC HB3.out) ?_
    replace HB := Hold.mk (HB.out.next HB3.out)
    clear HB3
    obtain ⟨bs, hbs⟩ : ∃ bs, bs = pathsR f := ⟨_, rfl⟩
    rw [← hbs] at HS1 HS2
    clear hbs
    obtain ⟨pa, pcap, rfl⟩ := HS1.out.slice
    obtain ⟨qa, qcap, rfl⟩ := HS2.out.slice
    obtain ⟨y0, y1, y2, y3, y4⟩ := cells_five HB.out.blk
    have g0 := Grow.cell y0
    have g1 := Grow.cell y1
    have g2 := Grow.cell y2
    have g3 := Grow.cell y3
    have g4 := Grow.cell y4
    have hcl := cle_below HB.out.below
    have HP := Hold.mk (Calls.grow (fun e : Grow w5 => Check_any f _ e.val ((HX.out.mono hcl).mono (cle_below e.property)) ((HT.out.below HB.out.below).below e.property)))
    have HR := Hold.mk (Calls.grow (fun e : Grow w5 => rCheck_any f _ e.val ((HX.out.mono hcl).mono (cle_below e.property))))
    clear hcl
    generalize checkF f = q at HP HR
    have hee : (q != q) = false := by simp
    have hnn : ((bs.length : Int) != (bs.length : Int)) = false := by simp
    go_wp2_with fail
    clear y0 y1 y2 y3 y4
    refine wp_region_grow (by kernel_rfl) (by kernel_rfl) ?_
    repeat (go_big_quiet_step (first | exact HP.out _ | exact HR.out _))
    refine wpQuiet_nil ?_
    rintro ⟨w6, hb6⟩
    replace HB := Hold.mk (HB.out.next hb6)
    replace HS1 := Hold.mk (HS1.out.mono RS_mono (cle_below hb6))
    replace HS2 := Hold.mk (HS2.out.mono RS_mono (cle_below hb6))
    simp only
    clear hb6 g0 g1 g2 g3 g4 HP HR HX
    have HBW := Hold.mk HB.out.below
    clear HB
    go_wp2_with fail
    go_loopw [5] (fun i wq => ∃ p : Nat, i = .int .i64 p ∧ p ≤ bs.length ∧ Below w6.heap.size w6 wq) (fun i _ => bs.length - (intOf i).toNat)
    case atStart => exact ⟨0, rfl, Nat.zero_le _, Below.refl _ _⟩
    case round =>
      obtain ⟨p, rfl, hp, hbl⟩ := hrel
      have HBL := Hold.mk hbl
      clear hbl
      by_cases hlt : p < bs.length
      · obtain ⟨x, hx⟩ : ∃ x, bs[p]? = some x := ⟨bs[p], List.getElem?_eq_getElem hlt⟩
        obtain ⟨_, _, e1, _, _, h1⟩ := HS1.out
        cases e1
        obtain ⟨_, _, e2, _, _, h2⟩ := HS2.out
        cases e2
        obtain ⟨b1, o1, d1, rfl, _, c1, rfl, _⟩ := h1 p x hx
        obtain ⟨b2, o2, d2, rfl, _, c2, rfl, _⟩ := h2 p x hx
        have hcl := cle_below HBL.out
        have z0 := hcl _ _ _ (c1 0 _ rfl)
        have z1 := hcl _ _ _ (c2 0 _ rfl)
        simp only [Nat.mul_one, Nat.add_zero] at z0 z1
        have g0 := Grow.cell z0
        have g1 := Grow.cell z1
        have hss : (x.toList == x.toList) = true := by simp
        clear hx h1 h2 c1 c2 hcl z0 z1
        go_wp2_with fail
        refine wp_region_grow (by kernel_rfl) (by kernel_rfl) ?_
        repeat (go_big_quiet_step (fail))
        refine wpQuiet_nil ?_
        rintro ⟨w8, hb8⟩
        have HN := Hold.mk (HBL.out.trans (hb8.mono HBL.out.size))
        simp only
        clear hb8 g0 g1
        go_wp2_with fail
        exact ⟨⟨p + 1, by go_num, hlt, HN.out⟩, by simp [intOf]; omega⟩
      · have HFIN := Hold.mk (HBW.out.trans (HBL.out.mono HBW.out.size))
        go_wp2_with fail
        go_ret
        exact ⟨rfl, HFIN.out⟩

end Go.Proofs.YtfllnlmanopfaaaDoor
